/-
  Generated terms: term.
-/
import Derived.Test.YtmipbilokjkjiaaGreatDoorTD
import Derived.Test.YtmipbilokjkjiaaGreatDoorW1
import Derived.Test.YtmipbilokjkjiaaGreatDoorTC
import Derived.Test.YtmipbilokjkjiaaGreatDoorTB
set_option linter.unusedSimpArgs false
set_option linter.unusedVariables false
namespace Go.Proofs.YtmipbilokjkjiaaGreatDoor
open Go.Tel
attribute [local simp] wNew wBox wBoxZ markT wCond wBuild fillS wO setCells wSt wLd wPart LFE wFad alive wInt wStr wGK wGd wPick wExt wLen wSlen wNot wNil okI ceI okB ceB okS ceS okL ceL okC ceC okO ceO okP ceP okG ceG okE ceE okR ceR okF ceF okX ceX okM ceM okN ceN okNf ceNf okNi ceNi ceA roL roC roO leL leC leO tpP tpC tpO clP clC clO clF clA clT clN clL nbP nbC nbO nbN nbL toPVs g0 g1 xI xL xM xF xG xC lf Y4 Y5
section
variable {bs : List (List AV)} {id : Nat} {l : Src} {R : Nat → Option (List PV)}
theorem TRepO.self {t : Ty} {v : AV} (h : TRepO t v) : eqA v v = true := by
  obtain ⟨k, n, i, ts⟩ := t
  obtain ⟨a, rfl, ha⟩ := h
  simp [eqA, eqAL, eqP, eqV_int, eqV_str, eqA_self ha]
theorem existsO_spec {t u : Ty} {x y : AV} (h : TRepO t x) (h' : TRepO u y) : PureC (env R) 32 [x, y] fun r => TRepO (.mk 6 [] 0 [t, u]) r := by
  obtain ⟨k, n, i, ts⟩ := t
  obtain ⟨k', n', i', ts'⟩ := u
  obtain ⟨a, rfl, ha⟩ := h
  obtain ⟨a', rfl, ha'⟩ := h'
  obtain ⟨v, hv, hc⟩ := exists_rspec (R := R) (k1 := k) (i1 := i) (k2 := k') (i2 := i') (n1 := n) (n2 := n') ha ha'
  exact ⟨v, ⟨_, hv, by simp [rowsT, rowT]; exact .inl (.capped _)⟩, hc⟩
theorem two_rows {t u : Ty} {x y : AV} (h : TRepO t x) (h' : TRepO u y) (s : Sto) (K : AV → Sto → Prop) (hK : K (.capped (rowsT [t, u])) s) : wBsl false s 4 [(I64 0), (SS []), (I64 0), (.capped [])] 2 [(0, 4, x), (4, 4, y)] K := by
  obtain ⟨k, n, i, ts⟩ := t
  obtain ⟨k', n', i', ts'⟩ := u
  obtain ⟨a, rfl, ha⟩ := h
  obtain ⟨a', rfl, ha'⟩ := h'
  simp [wBsl, repl, rowsBy, ha.ok, ha.toPV, ha'.ok, ha'.toPV]
  simpa [rowsT, rowT] using hK
theorem term_step (hB : Base bs id l) {W : List (List UInt8)} (hW : (env R).G 4 = some (strRow W)) (h4 : W.length = 4) (sW : Short W) {dv : AV} (μ : Nat)
    (ihn : ∀ d : Nat, d ≤ 20 → GenT R bs id l dv 48 d (3 * d + 1) μ) (iht : ∀ d : Nat, d ≤ 20 → GenT R bs id l dv 26 d (3 * d + 2) μ) (d : Nat) (hd : d ≤ 20) : GenT R bs id l dv 26 d (3 * d + 2) (μ + 1) := by
  intro m hm k hk vars hvars hμ L hro ts hrt
  have hlen := hB.len
  have hlt := hB.lt
  suffices H : ∀ (rr : Bool) (N : Nat) (Post : AV → Sto → Prop), N = bs.length + m.length → (∀ t v k' x, TRepO t v → TyV vars (8 * (k' - k) + 1) t → k ≤ k' → k' ≤ l.length → Post v ⟨ST bs id l k' ++ m, ts ++ x⟩) → P26_0 R 0 L.ro L.rt (.ptr id 0) dv (I64 d) (I64 vars) ⟨ST bs id l k ++ m, ts⟩ (QM rr N Post) from
    m26 (by simp [noIdL, noId]) (H _ _ _ (by simp [ST_len]) fun t v k' x h1 h2 h3 h4 => ⟨t, k', x, h1, h2, h3, h4, rfl⟩)
  intro rr N Post hN hP
  have hm' := Z4_ids hm
  have g1 : ∀ n, L.ro ≤ bs.length + m.length + n := fun n => by omega
  have fin : ∀ (k1 : Nat) (x : List (Nat × Nat)) (r : List (List AV)) (t : Ty) (v : AV), TRepO t v → TyV vars (8 * (k1 - k) + 1) t → k ≤ k1 → k1 ≤ l.length → wSt (LFE (env R) 26 0 L.ro L.rt) ⟨ST bs id l k1 ++ (m ++ Z4 :: r), ts ++ x⟩ 4 (.ptr (bs.length + m.length) 0) v fun s1 => wLd (env R) s1 (some 4) (.ptr (bs.length + m.length) 0) fun r => QM rr N Post r s1 :=
    fun k1 x r t v hv hb h1 h2 => tyO_leaf (R := R) (Post := Post) (rr := rr) (N := N) (k := k1) (ts := ts ++ x) (Z := Z4) (r := r) (L' := LFE (env R) 26 0 L.ro L.rt) hB hm rfl hN hro rfl hv (fun y hy => hP t y k1 x hy hb h1 h2)
  have fin0 : ∀ (k1 : Nat) (r : List (List AV)) (t : Ty) (v : AV), TRepO t v → TyV vars (8 * (k1 - k) + 1) t → k ≤ k1 → k1 ≤ l.length → wSt (LFE (env R) 26 0 L.ro L.rt) ⟨ST bs id l k1 ++ (m ++ Z4 :: r), ts⟩ 4 (.ptr (bs.length + m.length) 0) v fun s1 => wLd (env R) s1 (some 4) (.ptr (bs.length + m.length) 0) fun r => QM rr N Post r s1 := by
    intro k1 r t v hv hb h1 h2
    have := fin k1 [] r t v hv hb h1 h2
    simpa using this
  have rt' : ∀ x : List (Nat × Nat), (LFE (env R) 26 0 L.ro L.rt).rt ≤ (ts ++ x).length := fun x => by simp [LFE]; omega
  have mu : ∀ k1, k ≤ k1 → (l.length - k1) * 100 ≤ (l.length - k) * 100 := fun k1 h => aLs0034 _ (by omega)
  have mus : ∀ k1, k < k1 → k1 ≤ l.length → (l.length - k1) * 100 + 100 ≤ (l.length - k) * 100 := fun k1 h h' => by
    have : (l.length - k1 + 1) * 100 ≤ (l.length - k) * 100 := aLs0034 _ (by omega)
    omega
  have nominal : ∀ k1, k ≤ k1 → k1 ≤ l.length → wCall (env R) (LFE (env R) 26 0 L.ro L.rt) (.func (.func 48) [] []) [(.ptr id 0), dv, (I64 d), (I64 vars)] ⟨ST bs id l k1 ++ (m ++ [Z4]), ts⟩ fun a48 s1x0 =>
      wSt (LFE (env R) 26 0 L.ro L.rt) s1x0 4 (.ptr (bs.length + m.length) 0) a48 fun s1x1 => wLd (env R) s1x1 (some 4) (.ptr (bs.length + m.length) 0) fun r => QM rr N Post r s1x1 := by
    intro k1 h1 h2
    refine wCall_do (ihn d hd hm' h2 vars hvars (by have := mu k1 h1; omega) (LFE (env R) 26 0 L.ro L.rt) hro ts (by simpa [LFE] using hrt)) ?_
    rintro v s1 ⟨t, k3, x, hv, hb, hk3, hk4, rfl⟩
    exact fin k3 x [] t v hv (hb.mono (by omega)) (by omega) hk4
  have last : ∀ k1, k < k1 → k1 ≤ l.length → P26_10 R 0 L.ro L.rt (.ptr id 0) (.ptr (bs.length + m.length) 0) ⟨ST bs id l k1 ++ (m ++ [Z4]), ts⟩ (QM rr N Post) := by
    intro k1 h1 h2
    refine p26_10 ?_
    refine wCall_do (next_spec (n := 4) hB hm' h2 (by omega) (by omega) _ (by simpa [LFE] using hro) ts) ?_
    rintro v s1 ⟨r2, k2, rfl, hr3, hr4, hk3, hk4, rfl⟩
    refine in_eql ?_
    cases (r2 == 0) with
    | true =>
      refine co_t ?_
      refine wCall_pure never_spec ?_
      rintro v rfl
      exact fin0 k2 [] (.mk 1 [] 0 []) _ ⟨_, rfl, by simp [rowsT]; exact .inl (.capped _)⟩ (TyV.leaf (by simp) (by omega) (by omega) (by omega)) (by omega) hk4
    | false =>
      refine co_f (p26_13 ?_)
      refine wCall_pure any_spec ?_
      rintro v rfl
      refine wCall_pure (var_spec 0) ?_
      rintro v rfl
      have hb1 : ∀ (s : Sto) (K : AV → Sto → Prop), K (.capped (rowsT [.mk 5 [] 0 []])) s → wBsl false s 4 [(I64 0), (SS []), (I64 0), (.capped [])] 1 [(0, 4, T0 5 [] 0)] K := by
        intro s K hK
        simp [wBsl, repl, rowsBy]
        simpa [rowsT, rowT] using hK
      refine hb1 _ _ ?_
      refine wCall_pure (namedA_spec (.capped _)) ?_
      rintro v rfl
      refine wCall_pure (existsO_spec (t := .mk 0 [] 0 []) (u := .mk 2 [66, 111, 120] 0 [.mk 5 [] 0 []]) ⟨_, rfl, by simp [rowsT]; exact .inl (.capped _)⟩ ⟨_, rfl, .inl (.capped _)⟩) ?_
      intro v hv
      refine fin0 k2 [] _ _ hv ?_ (by omega) hk4
      exact TyV.ex (B := 1) (C := 2) (TyV.leaf (by simp) (by omega) (by omega) (by omega)) (TyV.node (B := 1) (by simp) (by omega) (TysV.cons (B := 1) (C := 0) (TyV.leaf (by simp) (by omega) (by omega) (by omega)) TysV.nil (by omega)) (by omega)) (by omega)
  have exis : ∀ (k1 : Nat) (x : List (Nat × Nat)) (tb : Ty) (vb : List AV), TRepO tb (.agg vb) → vb.length = 4 → (vb.all okCell) = true → (∀ n, idsLtL n vb = true) → 0 < d → k < k1 → k1 ≤ l.length → TyV 0 (8 * (k1 - k) - 7) tb →
      P26_9 R 0 L.ro L.rt (.ptr id 0) dv (I64 d) (I64 vars) (.ptr (bs.length + m.length) 0) (.ptr (bs.length + m.length + 1) 0) ⟨ST bs id l k1 ++ (m ++ [Z4, vb]), ts ++ x⟩ (QM rr N Post) := by
    intro k1 x tb vb hrep hv4 hok hids hd0 h1 h2 hsz
    have hld : ∀ (k : Nat) (t : List (Nat × Nat)) (K : AV → Prop), K (.agg vb) → wLd (env R) ⟨ST bs id l k ++ (m ++ [Z4, vb]), t⟩ (some 4) (.ptr (bs.length + m.length + 1) 0) K := by
      intro k t K hK
      simp only [wLd, loc_get, aLs0027, aLs0017, wO, wPart, aLs0040, xL, xM, xF, xG]
      refine ⟨by omega, ?_⟩
      rw [aLs0019 (by omega)]
      exact hK
    refine p26_9 (hld _ _ _ (in_sub (by omega) (by omega) (in_add (by omega) (by omega) ?_)))
    have e3 : ((d : Nat) : Int) - 1 = ((d - 1 : Nat) : Int) := by omega
    have e4 : ((vars : Nat) : Int) + 1 = ((vars + 1 : Nat) : Int) := by omega
    rw [e3, e4]
    have hm2 : LocB bs (m ++ [Z4, vb]) := locB_push hm (by
      intro b hb
      simp only [aLs0006, aLs0048, aLs0049] at hb
      rcases hb with rfl | rfl
      · simp [idsLtL, idsLt]
      · exact hids _)
    refine wCall_do (iht (d - 1) (by omega) hm2 h2 (vars + 1) (by omega) (by have := mus k1 h1 h2; omega) (LFE (env R) 26 0 L.ro L.rt) hro (ts ++ x) (rt' x)) ?_
    rintro v s1 ⟨t, k3, x3, hv, hb, hk3, hk4, rfl⟩
    refine wCall_pure (existsO_spec hrep hv) ?_
    intro w hw
    refine wSt_and (hld _ _ _ hrep.self) ?_
    rw [aLs0023]
    refine fin k3 (x ++ x3) [vb] _ w hw ?_ (by omega) hk4
    exact TyV.ex hsz hb (by omega)
  have loop : ∀ (k1 cnt : Nat), 0 < d → k < k1 → k1 ≤ l.length → cnt ≤ 3 → ∀ (j q k2 : Nat) (x : List (Nat × Nat)) (a : AV) (es : List Ty), q + j = cnt → k1 ≤ k2 → k2 ≤ l.length → es.length = q → TysV vars (8 * (k2 - k1) + q) es → Apd ts.length (ts ++ x) 25 a (rowsT es) →
      P26_8 R 0 L.ro L.rt (.ptr id 0) dv (I64 d) (I64 vars) (.ptr (bs.length + m.length) 0) (.ptr (bs.length + m.length + 1) 0) (I64 cnt) (I64 q) ⟨ST bs id l k2 ++ (m ++ [Z4, [I64 3, SS [], I64 0, a]]), ts ++ x⟩ (QM rr N Post) := by
    intro k1 cnt hd0 hk1 hk2 hcnt j
    induction j with
    | zero =>
      intro q k2 x a es hq hk1' hk2' hes hqs ha
      have ho := ha.rowsO
      refine p26_8 (in_lss ?_)
      have h1 : ¬ ((q : Int) < cnt) := by omega
      simp only [h1, aLs0080]
      refine co_f (p26_12 ?_)
      have := fin k2 x [[I64 3, SS [], I64 0, a]] (.mk 3 [] 0 es) (.agg [I64 3, SS [], I64 0, a]) ⟨a, rfl, ho⟩ ((TyV.node (by simp) (by omega) hqs (by omega)).mono (by omega)) (by omega) hk2'
      simpa [wLd, wO, wPart, loc_get] using this
    | succ j ihj =>
      intro q k2 x a es hq hk1' hk2' hes hqs ha
      have ho := ha.rowsO
      refine p26_8 (in_lss ?_)
      have h1 : ((q : Int) < cnt) := by omega
      simp only [h1, aLs0087]
      refine co_t (p26_11 ?_)
      have hm2 : LocB bs (m ++ [Z4, [I64 3, SS [], I64 0, a]]) := locB_push hm (by simp [idsLtL, idsLt, ho.idsLt])
      simp [loc_get, loc_get0, loc_set, loc_set0]
      refine wAri_fit (by omega) (by omega) ?_
      have e3 : ((d : Nat) : Int) - 1 = ((d - 1 : Nat) : Int) := by omega
      rw [e3]
      refine wCall_do (iht (d - 1) (by omega) hm2 hk2' vars (by omega) (by have := mu k2 (by omega); omega) (LFE (env R) 26 0 L.ro L.rt) hro (ts ++ x) (rt' x)) ?_
      rintro v s1 ⟨t, k3, x2, hv, hqn, hk4, hk5, rfl⟩
      obtain ⟨c1, n1, i1, es1⟩ := t
      obtain ⟨b, rfl, hb⟩ := hv
      simp [wBsl, repl, hb.ok, hb.toPV, loc_get, loc_get0, loc_set, loc_set0]
      have hrow : rowsBy 4 1 [PV.sc (.int .i64 c1), .sc (.string ⟨n1.toArray⟩), .sc (.int .i64 i1), .list (rowsT es1)] = [rowT (.mk c1 n1 i1 es1)] := by simp [rowsBy, rowT]
      rw [hrow]
      have ha2 : Apd ts.length (ts ++ (x ++ x2)) 25 a (rowsT es) := by
        rw [← aLs0023]
        exact ha.grow
      refine wApp_row ha2 hrt (fun r hr => rowsT_four r hr) (rowT_len _) (by omega) (rowT_ok _) (by simp [rowsT_len]; omega) (by simp [rowsT_len]; omega) ?_
      intro a' x' ha'
      have ho' := ha'.rowsO
      have := g1 1
      simp [loc_get, loc_get0, loc_set, loc_set0, ho'.ok, ho'.cells, ho'.noBlk, this]
      refine ⟨by simp [eqA], ?_, ?_⟩
      · simpa [ApdT.eqA] using ApdT.eqA ha
      refine p26_14 (in_add (by omega) (by omega) ?_)
      have ha3 : Apd ts.length (ts ++ x') 25 a' (rowsT (es ++ [.mk c1 n1 i1 es1])) := by
        rw [rowsT_append]
        simpa [rowsT] using ha'
      have := ihj (q + 1) k3 x' a' (es ++ [.mk c1 n1 i1 es1]) (by omega) (by omega) hk5 (by simp; omega) (TysV.snoc hqs hqn (by omega)) ha3
      simpa using this
  have disp : ∀ (k1 : Nat) (r : Int), 0 ≤ r → k ≤ k1 → k1 ≤ l.length → (r ≠ 0 → k < k1) → (5 < r → 0 < d) → P26_1 R 0 L.ro L.rt (.ptr id 0) dv (I64 d) (I64 vars) (.ptr (bs.length + m.length) 0) (I64 r) ⟨ST bs id l k1 ++ (m ++ [Z4]), ts⟩ (QM rr N Post) := by
    intro k1 r h0r h1 h2 hkk hd5
    have c7 : ∀ B : Bool, (r = 10 ∨ r = 11 → B = true) → (B = true → r = 10 ∨ r = 11) → 9 < r → P26_7 R 0 L.ro L.rt (.ptr id 0) dv (I64 d) (I64 vars) (.ptr (bs.length + m.length) 0) (I64 r) (BB B) ⟨ST bs id l k1 ++ (m ++ [Z4]), ts⟩ (QM rr N Post) := by
      intro B hB1 hB2 h9
      have hd0 := hd5 (by omega)
      have hk0 := hkk (by omega)
      have eL : ∀ k, (ST bs id l k ++ (m ++ [Z4])).length = bs.length + m.length + 1 := fun k => by simp [ST_len]; omega
      have eA : ∀ (k : Nat) (b : List AV) (t : List (Nat × Nat)), (⟨(ST bs id l k ++ (m ++ [Z4])) ++ [b], t⟩ : Sto) = ⟨ST bs id l k ++ (m ++ [Z4, b]), t⟩ := fun k b t => by simp
      have st4 : ∀ (k : Nat) (t : List (Nat × Nat)) (z b : List AV), z.length = 4 → b.length = 4 → (b.all okCell) = true → ∀ K : Sto → Prop, K ⟨ST bs id l k ++ (m ++ [Z4, b]), t⟩ → wSt (LFE (env R) 26 0 L.ro L.rt) ⟨ST bs id l k ++ (m ++ [Z4, z]), t⟩ 4 (.ptr (bs.length + m.length + 1) 0) (.agg b) K := by
        intro k t z b hz hb hok K hK
        have hce : cellsOf (.agg b) = b := rfl
        simp only [wSt, loc_get, aLs0027, aLs0017, wO, hce]
        refine ⟨⟨hb, by omega, by have := g1 1; simp [LFE]; omega, hok, .inl (by simp [LFE]), by omega⟩, ?_⟩
        rw [loc_set]
        have : setCells z 0 b = b := by
          obtain ⟨z0, z1, z2, z3, rfl⟩ : ∃ z0 z1 z2 z3, z = [z0, z1, z2, z3] := by
            rcases z with _ | ⟨a, _ | ⟨b, _ | ⟨c, _ | ⟨d, _ | ⟨e, l⟩⟩⟩⟩⟩ <;> simp at hz
            exact ⟨_, _, _, _, rfl⟩
          obtain ⟨b0, b1, b2, b3, rfl⟩ : ∃ z0 z1 z2 z3, b = [z0, z1, z2, z3] := by
            rcases b with _ | ⟨a, _ | ⟨b, _ | ⟨c, _ | ⟨d, _ | ⟨e, l⟩⟩⟩⟩⟩ <;> simp at hb
            exact ⟨_, _, _, _, rfl⟩
          simp [setCells]
        rw [this]
        exact hK
      refine p26_7 ?_
      cases B with
      | true =>
        refine co_t ?_
        refine bd_of (cs := [I64 3, SS [], I64 0, .capped []]) (by simp) ?_
        simp only [wNew, eL, eA]
        refine st4 _ _ _ _ rfl rfl (by simp [okCell]) _ ?_
        have hm2 : LocB bs (m ++ [Z4, [I64 3, SS [], I64 0, .capped []]]) := locB_push hm (by simp [idsLtL, idsLt])
        refine wCall_do (next_spec (n := 4) hB hm2 h2 (by omega) (by omega) _ (by simpa [LFE] using hro) ts) ?_
        rintro v s1 ⟨r2, k2, rfl, hr3, hr4, hk3, hk4, rfl⟩
        obtain ⟨j, rfl⟩ := aLs0081 hr3
        have := loop k2 j hd0 (by omega) hk4 (by omega) j 0 k2 [] (.capped []) [] (by omega) (aLs0005 _) hk4 rfl TysV.nil (.inl (by simp [rowsT]))
        simpa using this
      | false =>
        refine co_f (in_eql ?_)
        cases b12 : (r == 12) with
        | true =>
          refine co_t ?_
          refine wCall_pure any_spec ?_
          rintro v rfl
          simp only [wNew, eL, eA]
          refine st4 _ _ _ _ rfl rfl (by simp [okCell]) _ ?_
          have hm2 : LocB bs (m ++ [Z4, [I64 0, SS [], I64 0, .capped []]]) := locB_push hm (by simp [idsLtL, idsLt])
          refine wCall_do (next_spec (n := 2) hB hm2 h2 (by omega) (by omega) _ (by simpa [LFE] using hro) ts) ?_
          rintro v s1 ⟨r2, k2, rfl, hr3, hr4, hk3, hk4, rfl⟩
          refine in_eql ?_
          cases (r2 == 1) with
          | true =>
            refine co_t ?_
            have e1 : (I64 (1 : Int)) = I64 ((1 : Nat) : Int) := rfl
            have e0 : (I64 (0 : Int)) = I64 ((0 : Nat) : Int) := rfl
            refine wCall_do (iht 1 (by omega) hm2 hk4 0 (by omega) (by have := mus k2 (by omega) hk4; omega) (LFE (env R) 26 0 L.ro L.rt) hro ts (by simpa [LFE] using hrt)) ?_
            rintro v s1 ⟨t, k3, x, hv, hb, hk5, hk6, rfl⟩
            have hv' := hv
            obtain ⟨c1, n1, i1, es1⟩ := t
            obtain ⟨a1, rfl, ha1⟩ := hv'
            refine st4 _ _ _ _ rfl rfl (by simp [ha1.ok]) _ ?_
            exact exis k3 x _ _ hv rfl (by simp [ha1.ok]) (by simp [idsLtL, idsLt, ha1.idsLt]) hd0 (by omega) hk6 (hb.mono (by omega))
          | false =>
            have := exis k2 [] (.mk 0 [] 0 []) [I64 0, SS [], I64 0, .capped []] ⟨_, rfl, by simp [rowsT]; exact .inl (.capped _)⟩ rfl (by simp [okCell]) (by simp [idsLtL, idsLt]) hd0 (by omega) hk4 (TyV.leaf (by simp) (by omega) (by omega) (by omega))
            simpa using this
        | false => exact co_f (last k1 hk0 h2)
    have c6 : ∀ B : Bool, (B = true → 7 < r) → (B = false → 9 < r) → P26_6 R 0 L.ro L.rt (.ptr id 0) dv (I64 d) (I64 vars) (.ptr (bs.length + m.length) 0) (I64 r) (BB B) ⟨ST bs id l k1 ++ (m ++ [Z4]), ts⟩ (QM rr N Post) := by
      intro B hB1 hB2
      refine p26_6 ?_
      cases B with
      | true =>
        have h8 := hB1 rfl
        have hd0 := hd5 (by omega)
        have hk0 := hkk (by omega)
        refine co_t (in_sub (by omega) (by omega) ?_)
        have e3 : ((d : Nat) : Int) - 1 = ((d - 1 : Nat) : Int) := by omega
        rw [e3]
        refine wCall_do (iht (d - 1) (by omega) hm' h2 vars (by omega) (by have := mu k1 h1; omega) (LFE (env R) 26 0 L.ro L.rt) hro ts (by simpa [LFE] using hrt)) ?_
        rintro v s1 ⟨t, k2, x, hv, hb, hk3, hk4, rfl⟩
        refine in_sub (by omega) (by omega) ?_
        rw [e3]
        refine wCall_do (iht (d - 1) (by omega) hm' hk4 vars (by omega) (by have := mu k2 (by omega); omega) (LFE (env R) 26 0 L.ro L.rt) hro (ts ++ x) (rt' x)) ?_
        rintro w s1 ⟨u, k3, x3, hw, hc, hk5, hk6, rfl⟩
        refine two_rows hv hw _ _ ?_
        refine wCall_pure (unionA_spec (.capped _)) ?_
        rintro y rfl
        rw [aLs0023]
        exact fin k3 (x ++ x3) [] (.mk 4 [] 0 [t, u]) _ ⟨_, rfl, .inl (.capped _)⟩ (TyV.pair (by omega) hb hc (by omega)) (by omega) hk6
      | false =>
        have h9 := hB2 rfl
        refine co_f (in_eql ?_)
        cases b10 : (r == 10) with
        | true => exact co_t (c7 true (fun _ => rfl) (fun _ => .inl (by simpa using b10)) h9)
        | false =>
          have n10 : ¬ r = 10 := by simpa using b10
          refine co_f (in_eql (c7 _ ?_ ?_ h9))
          · rintro (h | h)
            · exact absurd h n10
            · simpa using h
          · intro h
            exact .inr (by simpa using h)
    have c5 : ∀ B : Bool, (B = false → 7 < r) → P26_5 R 0 L.ro L.rt (.ptr id 0) dv (I64 d) (I64 vars) (.ptr (bs.length + m.length) 0) (I64 r) (BB B) ⟨ST bs id l k1 ++ (m ++ [Z4]), ts⟩ (QM rr N Post) := by
      intro B hx
      refine p26_5 ?_
      cases B with
      | true => exact co_t (nominal k1 h1 h2)
      | false =>
        have h7 := hx rfl
        refine co_f (in_eql ?_)
        cases b8 : (r == 8) with
        | true => exact co_t (c6 true (fun _ => h7) (fun h => by cases h))
        | false =>
          have n8 : ¬ r = 8 := by simpa using b8
          refine co_f (in_eql (c6 _ (fun _ => h7) (fun h => ?_)))
          have n9 : ¬ r = 9 := by simpa using h
          omega
    have c3 : ∀ B : Bool, (B = false → 4 < r) → P26_3 R 0 L.ro L.rt (.ptr id 0) dv (I64 d) (I64 vars) (.ptr (bs.length + m.length) 0) (I64 r) (BB B) ⟨ST bs id l k1 ++ (m ++ [Z4]), ts⟩ (QM rr N Post) := by
      intro B hx
      refine p26_3 ?_
      cases B with
      | true =>
        refine co_t (in_gtr ?_)
        by_cases hv0 : vars = 0
        · have b0 : decide ((vars : Int) > 0) = false := by simp; omega
          rw [b0]
          exact co_f (p26_4 (nominal k1 h1 h2))
        · have b0 : decide ((vars : Int) > 0) = true := by simp; omega
          rw [b0]
          refine co_t ?_
          refine wCall_do (next_spec (n := vars) hB hm' h2 (by omega) (by omega) _ (by simpa [LFE] using hro) ts) ?_
          rintro v s1 ⟨r2, k2, rfl, hr3, hr4, hk3, hk4, rfl⟩
          refine wCall_pure (var_spec r2) ?_
          rintro v rfl
          exact fin0 k2 [] (.mk 5 [] r2 []) _ ⟨_, rfl, by simp [rowsT]; exact .inl (.capped _)⟩ (TyV.leaf (by simp) (by omega) (by omega) (by omega)) (by omega) hk4
      | false =>
        have h4' := hx rfl
        refine co_f (in_eql ?_)
        cases b5 : (r == 5) with
        | true => exact co_t (c5 true (fun h => by cases h))
        | false =>
          have n5 : ¬ r = 5 := by simpa using b5
          refine co_f (in_eql ?_)
          cases b6 : (r == 6) with
          | true => exact co_t (c5 true (fun h => by cases h))
          | false =>
            have n6 : ¬ r = 6 := by simpa using b6
            refine co_f (in_eql (c5 _ (fun h => ?_)))
            have n7 : ¬ r = 7 := by simpa using h
            omega
    have c2 : ∀ B : Bool, (B = false → 1 < r) → P26_2 R 0 L.ro L.rt (.ptr id 0) dv (I64 d) (I64 vars) (.ptr (bs.length + m.length) 0) (I64 r) (BB B) ⟨ST bs id l k1 ++ (m ++ [Z4]), ts⟩ (QM rr N Post) := by
      intro B hx
      refine p26_2 ?_
      cases B with
      | true =>
        refine co_t (ld_glob hW ?_)
        refine wCall_do (next_spec (n := 4) hB hm' h2 (by omega) (by omega) _ (by simpa [LFE] using hro) ts) ?_
        rintro v s1 ⟨r2, k2, rfl, hr3, hr4, hk3, hk4, rfl⟩
        obtain ⟨w, hw, hwl⟩ := leaf_name hW h4 sW hr3 hr4
        refine idx_str hr3 hw (ld_str ?_)
        refine wCall_pure (namedA_spec (.capped [])) ?_
        rintro v rfl
        exact wSt_and (ld_glob hW (eqA_strRows W)) (fin0 k2 [] (.mk 2 w 0 []) _ ⟨_, rfl, by simp [rowsT]; exact .inl (.capped _)⟩ (TyV.leaf hwl (by omega) (by omega) (by omega)) (by omega) hk4)
      | false =>
        have h1' := hx rfl
        refine co_f (in_eql ?_)
        cases b2 : (r == 2) with
        | true =>
          refine co_t ?_
          refine wCall_pure any_spec ?_
          rintro v rfl
          exact fin0 k1 [] (.mk 0 [] 0 []) _ ⟨_, rfl, by simp [rowsT]; exact .inl (.capped _)⟩ (TyV.leaf (by simp) (by omega) (by omega) (by omega)) h1 h2
        | false =>
          have n2 : ¬ r = 2 := by simpa using b2
          refine co_f (in_eql ?_)
          cases b3 : (r == 3) with
          | true => exact co_t (c3 true (fun h => by cases h))
          | false =>
            have n3 : ¬ r = 3 := by simpa using b3
            refine co_f (in_eql (c3 _ (fun h => ?_)))
            have n4 : ¬ r = 4 := by simpa using h
            omega
    refine p26_1 (in_eql ?_)
    cases b0 : (r == 0) with
    | true => exact co_t (c2 true (fun h => by cases h))
    | false =>
      have n0 : ¬ r = 0 := by simpa using b0
      refine co_f (in_eql (c2 _ (fun h => ?_)))
      have n1 : ¬ r = 1 := by simpa using h
      omega
  refine p26_0 ?_
  simp only [wNew, aLs0023, aLs0011, ST_len]
  refine wCall_do (next_spec2 (n := 14) hB hm' hk (by omega) (by omega) _ (by simpa [LFE] using hro) ts) ?_
  rintro v s1 ⟨r, k1, rfl, hr1, hr2, hk1, hk2, hk3, rfl⟩
  refine in_leq ?_
  by_cases hd0 : d = 0
  · have b0 : decide ((d : Int) ≤ 0) = true := by simp; omega
    rw [b0]
    refine gk_t (gk_t (in_gtr (pk ?_)))
    cases b5 : decide (r > 5) with
    | true => exact co_t (disp k1 0 (by omega) hk1 hk2 (fun h => absurd rfl h) (by omega))
    | false =>
      have n5 : ¬ r > 5 := by simpa using b5
      exact co_f (disp k1 r hr1 hk1 hk2 hk3 (by omega))
  · have b0 : decide ((d : Int) ≤ 0) = false := by simp; omega
    rw [b0]
    exact gk_f (by simp) (gk_f (by simp) (pk (co_f (disp k1 r hr1 hk1 hk2 hk3 (by omega)))))
end
section
variable {bs : List (List AV)} {id : Nat} {l : Src} {R : Nat → Option (List PV)}
theorem gen_all (hB : Base bs id l) {W : List (List UInt8)} (hW : (env R).G 4 = some (strRow W)) (h4 : W.length = 4) (sW : Short W) {dv : AV} {rows : List (List PV)} (hD : Decls dv rows) : ∀ μ : Nat,
    (∀ d : Nat, d ≤ 20 → GenT R bs id l dv 26 d (3 * d + 2) μ) ∧ (∀ d : Nat, d ≤ 20 → GenT R bs id l dv 48 d (3 * d + 1) μ) ∧ (∀ e : Int, -1 ≤ e → e ≤ 20 → GenT R bs id l dv 51 e (3 * (e + 1).toNat) μ) := by
  intro μ
  induction μ with
  | zero => exact ⟨fun d _ m _ k _ vars _ h => absurd h (aLs0050 _), fun d _ m _ k _ vars _ h => absurd h (aLs0050 _), fun e _ _ m _ k _ vars _ h => absurd h (aLs0050 _)⟩
  | succ μ ih =>
    obtain ⟨i1, i2, i3⟩ := ih
    exact ⟨fun d hd => term_step hB hW h4 sW μ i2 i1 d hd, fun d hd => named_step hB hW h4 sW hD μ i3 d hd, fun e he he2 => arg_step hB hW h4 sW μ i2 i1 e he he2⟩
theorem termTop_spec (hB : Base bs id l) {W : List (List UInt8)} (hW : (env R).G 4 = some (strRow W)) (h4 : W.length = 4) (sW : Short W) {dv : AV} {rows : List (List PV)} (hD : Decls dv rows) {m : List (List AV)} (hm : LocB bs m) {k : Nat} (hk : k ≤ l.length) (L : Lim) (hro : L.ro ≤ id) (ts : List (Nat × Nat)) (hrt : L.rt ≤ ts.length) :
    ∃ v s', (∃ t k' x, TRepO t v ∧ TyV 0 (8 * (k' - k) + 1) t ∧ k ≤ k' ∧ k' ≤ l.length ∧ s' = ⟨ST bs id l k' ++ m, ts ++ x⟩) ∧ CallE (env R) L 7 [.ptr id 0, dv] ⟨ST bs id l k ++ m, ts⟩ v s' := by
  have hlen := hB.len
  have hlt := hB.lt
  suffices H : ∀ (rr : Bool) (N : Nat) (Post : AV → Sto → Prop), N = bs.length + m.length → (∀ t v k' x, TRepO t v → TyV 0 (8 * (k' - k) + 1) t → k ≤ k' → k' ≤ l.length → Post v ⟨ST bs id l k' ++ m, ts ++ x⟩) → P7_0 R 0 L.ro L.rt (.ptr id 0) dv ⟨ST bs id l k ++ m, ts⟩ (QM rr N Post) from
    m7 (by simp [noIdL, noId]) (H _ _ _ (by simp [ST_len]) fun t v k' x h1 h2 h3 h4 => ⟨t, k', x, h1, h2, h3, h4, rfl⟩)
  intro rr N Post hN hP
  refine p7_0 ?_
  simp only [wNew, aLs0023, aLs0011, ST_len]
  refine wCall_do ((gen_all hB hW h4 sW hD _).1 3 (by omega) (Z4_ids hm) hk 0 (by omega) (Nat.lt_succ_self _) (LFE (env R) 7 0 L.ro L.rt) hro ts (by simpa [LFE] using hrt)) ?_
  rintro v s1 ⟨t, k3, x, hv, hb, hk3, hk4, rfl⟩
  exact tyO_leaf (R := R) (Post := Post) (rr := rr) (N := N) (k := k3) (ts := ts ++ x) (Z := Z4) (r := []) (L' := LFE (env R) 7 0 L.ro L.rt) hB hm rfl hN hro rfl hv (fun y hy => hP t y k3 x hy hb hk3 hk4)
end
def declB : List (List PV) → Bool
  | [] => true
  | r :: l => (match r with
    | .sc (.string a) :: .sc (.int .i64 n) :: rest => rest.length == 6 && (decide (0 ≤ n) && (decide (n ≤ 2) && (decide (a.data.size < 2 ^ 50) && (r.map AV.pv).all okCell)))
    | _ => false) && declB l
theorem declB_row : ∀ {l : List (List PV)}, declB l = true → ∀ r ∈ l, DeclRow r
  | [], _, r, h => by cases h
  | r :: l, hl, r', h => by
    simp only [declB, aLs0002] at hl
    rcases aLs0006.1 h with rfl | h
    · have h1 := hl.1
      split at h1
      · rename_i a n rest
        simp only [aLs0002, aLs0079, aLs0028] at h1
        obtain ⟨h1, h2, h3, h4, h5⟩ := h1
        refine ⟨a.data.toList, n.toNat, rest, ?_, h1, by omega, by simpa using h4, h5⟩
        have : ((n.toNat : Nat) : Int) = n := by omega
        rw [this]
      · cases h1
    · exact declB_row hl.2 r' h
section
variable {R : Nat → Option (List PV)}
theorem fmtO {t : Ty} (h : size t < 2 ^ 60) (ho : okT t) (hsm : smallV t = true) {x : AV} (hx : TRepO t x) : PureC (env R) 10 [x] fun r => r = SS (textT t) := by
  obtain ⟨x', h1, h2, h3⟩ := hx.closed
  exact PureC.of_closed (by kernel_rfl) (by kernel_rfl) (args' := [x']) (by simp [h1]) (by simp [h3]) (format_spec h ho hsm h2)
theorem rfmtO {t : Ty} (h : size t < 2 ^ 60) (ho : okT t) (hsm : smallV t = true) {x : AV} (hx : TRepO t x) : PureC (env R) 12 [x] fun r => r = SS (textT t) := by
  obtain ⟨x', h1, h2, h3⟩ := hx.closed
  exact PureC.of_closed (by kernel_rfl) (by kernel_rfl) (args' := [x']) (by simp [h1]) (by simp [h3]) (rformat_spec h ho hsm h2)
end
abbrev Z8 : List AV := [SS [], I64 0, I64 0, SS [], I64 0, .capped [], BB false, .capped []]
abbrev DBl (w : List UInt8) (ar sk : Int) (sn : List UInt8) (a : AV) (c : Bool) (fl : AV) : List AV := [SS w, I64 ar, I64 sk, SS sn, I64 0, a, BB c, fl]
def DRow (r : List PV) : Prop := DeclRow r ∧ ∃ c : Bool, r[6]? = some (.sc (.bool c))
structure DX (rows : List (List PV)) : Prop where
  row : ∀ r ∈ rows, DRow r
  abs : ∃ r ∈ rows, r[6]? = some (.sc (.bool false))
theorem DRow.len {r : List PV} (h : DRow r) : r.length = 8 := by
  obtain ⟨⟨name, n, rest, rfl, h6, _⟩, _⟩ := h
  simp [h6]
theorem DRow.ok {r : List PV} (h : DRow r) : (r.map AV.pv).all okCell = true := by
  obtain ⟨⟨name, n, rest, rfl, h6, _, _, h⟩, _⟩ := h
  exact h
theorem DX.decls {v : AV} {rows : List (List PV)} (h : DX rows) (hv : RowsO v rows) (hl : rows.length < 100) : Decls v rows := ⟨hv, fun r hr => (h.row r hr).1, hl⟩
theorem DX.len {rows : List (List PV)} (h : DX rows) : ∀ r ∈ rows, r.length = 8 := fun r hr => (h.row r hr).len
theorem DX.snoc {rows : List (List PV)} {r : List PV} (h : DX rows) (hr : DRow r) : DX (rows ++ [r]) := by
  refine ⟨fun q hq => ?_, ?_⟩
  · rcases aLs0016.1 hq with hq | hq
    · exact h.row q hq
    · simp only [aLs0054] at hq; rw [hq]; exact hr
  · obtain ⟨q, hq, he⟩ := h.abs
    exact ⟨q, aLs0107 _ hq, he⟩
section
variable {bs : List (List AV)} {id : Nat} {l : Src} {R : Nat → Option (List PV)} {k : Nat} {M : List (List AV)} {ts : List (Nat × Nat)} {j : Nat} {b : List AV}
theorem mget : (ST bs id l k ++ M)[bs.length + j]? = M[j]? := by
  have := get_app (ST bs id l k) M j
  rwa [ST_len] at this
theorem mset (v : List AV) : (ST bs id l k ++ M).set (bs.length + j) v = ST bs id l k ++ M.set j v := by
  have := set_app (ST bs id l k) M j v
  rwa [ST_len] at this
theorem lad (h : M[j]? = some b) (hb : b ≠ []) : alive ⟨ST bs id l k ++ M, ts⟩ (bs.length + j) = true := by
  obtain ⟨c, r, rfl⟩ := aLs0122 hb
  simp only [alive, mget, h]
theorem lfad (h : M[j]? = some b) (hb : b ≠ []) {o d : Nat} {K : AV → Prop} (hK : K (.ptr (bs.length + j) (o + d))) : wFad ⟨ST bs id l k ++ M, ts⟩ (.ptr (bs.length + j) o) d K := ⟨lad h hb, hK⟩
theorem lld (h : M[j]? = some b) {o : Nat} {v : AV} (hb : b[o]? = some v) {K : AV → Prop} (hK : K v) : wLd (env R) ⟨ST bs id l k ++ M, ts⟩ none (.ptr (bs.length + j) o) K := by
  simp only [wLd, mget, h, wO, wPart, hb, xL, xM, xF, xG]
  exact hK
theorem lldn (h : M[j]? = some b) {n : Nat} (hb : b.length = n) {K : AV → Prop} (hK : K (.agg b)) : wLd (env R) ⟨ST bs id l k ++ M, ts⟩ (some n) (.ptr (bs.length + j) 0) K := by
  simp only [wLd, mget, h, wO, wPart, aLs0040, xL, xM, xF, xG]
  refine ⟨by omega, ?_⟩
  rw [aLs0019 (by omega)]
  exact hK
theorem lst (h : M[j]? = some b) {o n : Nat} {x : AV} {L' : Lim} (hro : L'.ro ≤ bs.length + j) (hn0 : L'.n0 = 0) (hx : (cellsOf x).length = n) (hb : o + n ≤ b.length) (hok : (cellsOf x).all okCell = true) (hn : n ≠ 0) {K : Sto → Prop}
    (hK : K ⟨ST bs id l k ++ M.set j (setCells b o (cellsOf x)), ts⟩) : wSt L' ⟨ST bs id l k ++ M, ts⟩ n (.ptr (bs.length + j) o) x K := by
  simp only [wSt, mget, h, wO, mset]
  exact ⟨⟨hx, by omega, hro, hok, .inl (by omega), hn⟩, hK⟩
theorem locB_set {m : List (List AV)} (hm : LocB bs m) (j : Nat) {b : List AV} (hb : ∀ n, idsLtL n b = true) : LocB bs (m.set j b) := by
  intro x hx
  simp only [aLs0078]
  rcases aLs0053 hx with h | h
  · exact hm x h
  · rw [h]; exact hb _
theorem DBl_ids {w : List UInt8} {ar sk : Int} {sn : List UInt8} {a : AV} {c : Bool} {fl : AV} {aa fs : List (List PV)} (ha : RowsO a aa) (hf : RowsO fl fs) (n : Nat) : idsLtL n (DBl w ar sk sn a c fl) = true := by
  simp [idsLtL, idsLt, ha.idsLt, hf.idsLt]
def rowD (w : List UInt8) (ar sk : Int) (sn : List UInt8) (aa : List (List PV)) (c : Bool) (fs : List (List PV)) : List PV :=
  [.sc (.string ⟨w.toArray⟩), .sc (.int .i64 ar), .sc (.int .i64 sk), .sc (.string ⟨sn.toArray⟩), .sc (.int .i64 0), .list aa, .sc (.bool c), .list fs]
theorem rowD_row {w : List UInt8} {ar : Nat} {sk : Int} {sn : List UInt8} {aa : List (List PV)} {c : Bool} {fs : List (List PV)} (hw : w.length < 2 ^ 50) (har : ar ≤ 2) : DRow (rowD w ar sk sn aa c fs) :=
  ⟨⟨w, ar, _, rfl, rfl, har, hw, rfl⟩, c, rfl⟩
theorem bsl_row {n : Nat} {z b : List AV} {row : List PV} {s : Sto} {K : AV → Sto → Prop} (hz : z.length = n) (hb : b.length = n) (hn : n ≠ 0) (hn2 : n ≤ 2 ^ 20) (hok : b.all okCell = true) (hp : toPVs b = some row) (hr : row.length = n) (hK : K (.capped [row]) s) : wBsl false s n z 1 [(0, n, .agg b)] K := by
  refine ⟨⟨by omega, hz, hn⟩, ?_⟩
  have h1 : fillS (repl 1 z) [(0, n, .agg b)] = some b := by
    have e : repl 1 z = z := by simp [repl]
    simp only [e, fillS, ceA]
    rw [if_pos ⟨hb, by omega, hok⟩]
    have : ∀ (x y : List AV), x.length = y.length → setCells x 0 y = y := by
      intro x y h
      have : ∀ (y x p : List AV), x.length = y.length → setCells (p ++ x) p.length y = p ++ y := by
        intro y
        induction y with
        | nil => intro x p h; cases x with
          | nil => simp [setCells]
          | cons c x => simp at h
        | cons d y ih =>
          intro x p h
          cases x with
          | nil => simp at h
          | cons c x =>
            simp only [setCells]
            have e1 : (p ++ c :: x).set p.length d = (p ++ [d]) ++ x := by simp
            have := ih x (p ++ [d]) (by simpa using h)
            rw [e1]
            simpa using this
      simpa using this y x [] h
    rw [this z b (by omega)]
  rw [h1]
  simp only [wO, aLs0063, aLs0009, hp]
  have : rowsBy n 1 row = [row] := by simp [rowsBy, aLs0019 (Nat.le_of_eq hr)]
  rw [this]
  exact hK
theorem ex_end {x : List (Nat × Nat)} {w : List UInt8} {ar : Nat} {sk : Int} {sn : List UInt8} {a : AV} {c : Bool} {fl : AV} {aa fs : List (List PV)} (hj : M[j]? = some (DBl w ar sk sn a c fl)) (ha : RowsO a aa) (hf : RowsO fl fs) {t1 t5 t6 : AV} {rows : List (List PV)}
    (hA : Apd ts.length (ts ++ x) 87 t1 rows) (hX : DX rows) (hl : rows.length < 95) {ro rt : Nat} (hrt : rt ≤ ts.length) {QR : AV → Sto → Prop}
    (K : ∀ t1' x', Apd ts.length (ts ++ x') 87 t1' (rows ++ [rowD w ar sk sn aa c fs]) → P27_11 R 0 ro rt (.ptr id 0) t1' t5 t6 ⟨ST bs id l k ++ M, ts ++ x'⟩ QR) :
    P27_8 R 0 ro rt (.ptr id 0) t1 t5 t6 (.ptr (bs.length + j) 0) ⟨ST bs id l k ++ M, ts ++ x⟩ QR := by
  refine p27_8 (lldn hj rfl (bsl_row (row := rowD w ar sk sn aa c fs) rfl rfl (by omega) (by omega) (by simp [okI, okS, Go.Tel.okB, ha.ok, hf.ok]) (by simp [toPVs, tpP, ha.toPV, hf.toPV, rowD]) rfl ⟨by omega, ?_⟩))
  exact wApp_row hA hrt hX.len rfl (by omega) rfl (by omega) (by omega) fun a' x' h => K a' x' h
end
structure Loc (bs m M : List (List AV)) : Prop where
  ok : LocB bs M
  pre : ∃ B, M = m ++ B
theorem Loc.set {bs m M : List (List AV)} (h : Loc bs m M) {j : Nat} (hj : m.length ≤ j) {b : List AV} (hb : ∀ n, idsLtL n b = true) : Loc bs m (M.set j b) := by
  refine ⟨locB_set h.ok j hb, ?_⟩
  obtain ⟨B, rfl⟩ := h.pre
  exact ⟨B.set (j - m.length) b, by rw [aLs0114 _ _ hj]⟩
theorem Loc.push {bs m M : List (List AV)} (h : Loc bs m M) {b : List AV} (hb : ∀ n, idsLtL n b = true) : Loc bs m (M ++ [b]) := by
  refine ⟨locB_push h.ok (by intro x hx; simp only [aLs0054] at hx; rw [hx]; exact hb _), ?_⟩
  obtain ⟨B, rfl⟩ := h.pre
  exact ⟨B ++ [b], by simp⟩
section
variable {bs : List (List AV)} {id : Nat} {l : Src} {R : Nat → Option (List PV)} {m M : List (List AV)} {ts : List (Nat × Nat)} {j : Nat} {W : List (List UInt8)}
theorem arg_call (hB : Base bs id l) (hW : (env R).G 4 = some (strRow W)) (h4 : W.length = 4) (sW : Short W) {k : Nat} (hM : LocB bs M) (hk : k ≤ l.length) {t1 : AV} {rows : List (List PV)} (hX : DX rows) (hrep : RowsO t1 rows) (hl : rows.length < 100) (ar : Nat) (har : ar ≤ 2) (L : Lim) (hro : L.ro ≤ id) (ts : List (Nat × Nat)) (hrt : L.rt ≤ ts.length) :
    ∃ v s', (∃ t k' x, TRepO t v ∧ k ≤ k' ∧ k' ≤ l.length ∧ s' = ⟨ST bs id l k' ++ M, ts ++ x⟩) ∧ CallE (env R) L 51 [.ptr id 0, t1, I64 1, I64 ar] ⟨ST bs id l k ++ M, ts⟩ v s' := by
  obtain ⟨v, s', ⟨t, k', x, h1, _, h3, h4, h5⟩, h6⟩ := (gen_all hB hW h4 sW (hX.decls hrep hl) ((l.length - k) * 100 + 7)).2.2 1 (by omega) (by omega) hM hk ar (by omega) (by omega) L hro ts hrt
  exact ⟨v, s', ⟨t, k', x, h1, h3, h4, h5⟩, h6⟩
theorem ex_fields (hB : Base bs id l) (hW : (env R).G 4 = some (strRow W)) (h4 : W.length = 4) (sW : Short W) {k : Nat} (hM : Loc bs m M) (hmj : m.length ≤ j) (hk : k ≤ l.length) {x : List (Nat × Nat)} {w : List UInt8} {ar : Nat} {sk : Int} {sn : List UInt8} {a : AV} {c : Bool} {aa : List (List PV)} (hj : M[j]? = some (DBl w ar sk sn a c (.capped []))) (ha : RowsO a aa)
    {t1 t5 t6 : AV} {rows : List (List PV)} (hA : Apd ts.length (ts ++ x) 87 t1 rows) (hX : DX rows) (hl : rows.length < 95) (hw : w.length < 2 ^ 50) (har : ar ≤ 2) {ro rt : Nat} (hro : ro ≤ id) (hrt : rt ≤ ts.length) {QR : AV → Sto → Prop}
    (K : ∀ k' M' t1' x' row, k ≤ k' → k' ≤ l.length → Loc bs m M' → DRow row → Apd ts.length (ts ++ x') 87 t1' (rows ++ [row]) → P27_11 R 0 ro rt (.ptr id 0) t1' t5 t6 ⟨ST bs id l k' ++ M', ts ++ x'⟩ QR) :
    P27_5 R 0 ro rt (.ptr id 0) t1 t5 t6 (.ptr (bs.length + j) 0) ⟨ST bs id l k ++ M, ts ++ x⟩ QR := by
  have hlt := hB.lt
  have hlen := hB.len
  have none_ : ∀ k1, k ≤ k1 → k1 ≤ l.length → P27_8 R 0 ro rt (.ptr id 0) t1 t5 t6 (.ptr (bs.length + j) 0) ⟨ST bs id l k1 ++ M, ts ++ x⟩ QR := fun k1 h1 h2 =>
    ex_end hj ha (.inl (.capped [])) hA hX hl hrt fun t1' x' h => K k1 M t1' x' _ h1 h2 hM (rowD_row hw har) h
  refine p27_5 (lfad hj (by simp) (lld hj (v := BB c) rfl ?_))
  cases c with
  | false => exact gk_f (by simp) (gk_f (by simp) (gk_f (by simp) (pk (co_f (none_ k (aLs0005 _) hk)))))
  | true =>
    refine gk_t (gk_t (wCall_do (next_spec (n := 2) hB hM.ok hk (by omega) (by omega) _ (by simpa [LFE] using hro) _) ?_))
    rintro v s1 ⟨r, k1, rfl, hr1, hr2, hk1, hk2, rfl⟩
    refine gk_t (in_eql (pk ?_))
    cases (r == 1) with
    | false => exact co_f (none_ k1 hk1 hk2)
    | true =>
      refine co_t (lfad hj (by simp) (lld hj (v := I64 ar) rfl ?_))
      refine wCall_do (arg_call hB hW h4 sW hM.ok hk2 hX hA.rowsO (by omega) ar har (LFE (env R) 27 0 ro rt) (by simpa [LFE] using hro) (ts ++ x) (by simp [LFE]; omega)) ?_
      rintro v s1 ⟨t, k2, x2, hv, hk3, hk4, rfl⟩
      obtain ⟨c1, n1, i1, es1⟩ := t
      obtain ⟨b, rfl, hb⟩ := hv
      refine bd_of (cs := [SS [112, 97, 114, 116], I64 c1, SS n1, I64 i1, b]) (by simp [fillS, setCells, ceS, ceA, okS, okI, hb.ok]) ?_
      refine bsl_row (row := [.sc (.string ⟨[112, 97, 114, 116].toArray⟩), .sc (.int .i64 c1), .sc (.string ⟨n1.toArray⟩), .sc (.int .i64 i1), .list (rowsT es1)]) rfl rfl (by omega) (by omega) (by simp [okS, okI, hb.ok]) (by simp [toPVs, tpP, hb.toPV]) rfl ?_
      have eq : (ts ++ x) ++ x2 = ts ++ (x ++ x2) := by simp
      refine lfad hj (by simp) (lst hj (by simp [LFE]; omega) (by rfl) (by rfl) (by simp) (by rfl) (by omega) ?_)
      simp only [ceC, setCells]
      rw [eq]
      have hf : RowsO (.capped [[.sc (.string ⟨[112, 97, 114, 116].toArray⟩), .sc (.int .i64 c1), .sc (.string ⟨n1.toArray⟩), .sc (.int .i64 i1), .list (rowsT es1)]]) [[.sc (.string ⟨[112, 97, 114, 116].toArray⟩), .sc (.int .i64 c1), .sc (.string ⟨n1.toArray⟩), .sc (.int .i64 i1), .list (rowsT es1)]] := .inl (.capped _)
      have hjl := (aLs0014.1 hj).1
      refine ex_end (w := w) (ar := ar) (sk := sk) (sn := sn) (a := a) (c := true) (aLs0070 hjl) ha hf (by rw [← aLs0023]; exact hA.grow) hX hl hrt fun t1' x' h => ?_
      exact K k2 _ t1' x' _ (by omega) hk4 (hM.set hmj (DBl_ids ha hf)) (rowD_row hw har) h
theorem eqA_ptr0 (a b : Nat) : eqA (.ptr a b) (.ptr a b) = true := by simp [eqA]
theorem ex_super (hB : Base bs id l) (hW : (env R).G 4 = some (strRow W)) (h4 : W.length = 4) (sW : Short W) (hmj : m.length ≤ j) {w : List UInt8} {ar : Nat} {sn : List UInt8} {c : Bool} {x : List (Nat × Nat)} {j2 : Nat} {AB : List AV} {n : Nat} (hne : j2 ≠ j) (hAB : AB[1]? = some (I64 n)) (hn2 : n ≤ 2)
    {t1 t5 t6 : AV} {rows : List (List PV)} (hA : Apd ts.length (ts ++ x) 87 t1 rows) (hX : DX rows) (hl : rows.length < 95) (har : ar ≤ 2) {ro rt : Nat} (hro : ro ≤ id) (hrt : rt ≤ ts.length) {k0 : Nat} {QR : AV → Sto → Prop}
    (K : ∀ k' M' y a aa, k0 ≤ k' → k' ≤ l.length → Loc bs m M' → M'[j]? = some (DBl w ar 2 sn a c (.capped [])) → RowsO a aa → P27_5 R 0 ro rt (.ptr id 0) t1 t5 t6 (.ptr (bs.length + j) 0) ⟨ST bs id l k' ++ M', ts ++ (x ++ y)⟩ QR) :
    ∀ (i q k : Nat) (M : List (List AV)) (y : List (Nat × Nat)) (a : AV) (es : List Ty), q + i = n → es.length = q → k0 ≤ k → k ≤ l.length → Loc bs m M → M[j]? = some (DBl w ar 2 sn a c (.capped [])) → M[j2]? = some AB → Apd (ts ++ x).length ((ts ++ x) ++ y) 25 a (rowsT es) →
      P27_10 R 0 ro rt (.ptr id 0) t1 t5 t6 (.ptr (bs.length + j) 0) (.ptr (bs.length + j2) 0) (I64 q) ⟨ST bs id l k ++ M, (ts ++ x) ++ y⟩ QR := by
  have hlt := hB.lt
  have hlen := hB.len
  have hABn : AB ≠ [] := by rintro rfl; simp at hAB
  intro i
  induction i with
  | zero =>
    intro q k M y a es hq hes hk0 hk hM hj hj2 ha
    refine p27_10 (lfad hj2 hABn (lld hj2 hAB (in_lss ?_)))
    rw [aLs0035 (by omega)]
    refine co_f ?_
    have := K k M y a _ hk0 hk hM hj ha.rowsO
    rwa [← aLs0023] at this
  | succ i ih =>
    intro q k M y a es hq hes hk0 hk hM hj hj2 ha
    have ho := ha.rowsO
    have hjl := (aLs0014.1 hj).1
    refine p27_10 (lfad hj2 hABn (lld hj2 hAB (in_lss ?_)))
    rw [aLs0033 (by omega)]
    refine co_t (p27_12 (lfad hj (by simp) (lfad hj (by simp) (lld hj (v := a) rfl (lfad hj (by simp) (lld hj (v := I64 ar) rfl ?_))))))
    refine wCall_do (arg_call hB hW h4 sW hM.ok hk hX hA.rowsO (by omega) ar har (LFE (env R) 27 0 ro rt) (by simpa [LFE] using hro) ((ts ++ x) ++ y) (by simp [LFE]; omega)) ?_
    rintro v s1 ⟨t, k2, x2, hv, hk3, hk4, rfl⟩
    obtain ⟨c1, n1, i1, es1⟩ := t
    obtain ⟨b, rfl, hb⟩ := hv
    refine bsl_row (row := rowT (.mk c1 n1 i1 es1)) rfl rfl (by omega) (by omega) (by simp [okS, okI, hb.ok]) (by simp [toPVs, tpP, hb.toPV, rowT]) (rowT_len _) ⟨by omega, ?_⟩
    have ha2 : Apd (ts ++ x).length ((ts ++ x) ++ (y ++ x2)) 25 a (rowsT es) := by
      rw [← aLs0023]
      exact ha.grow
    rw [show ((ts ++ x) ++ y) ++ x2 = (ts ++ x) ++ (y ++ x2) by simp]
    refine wApp_row ha2 (by simp [LFE]; omega) (fun r hr => rowsT_four r hr) (rowT_len _) (by omega) (rowT_ok _) (by simp [rowsT_len]; omega) (by simp [rowsT_len]; omega) ?_
    intro a' y' ha'
    have ho' := ha'.rowsO
    refine lfad hj (by simp) (lfad hj (by simp) (lst hj (by simp [LFE]; omega) (by rfl) (by simp [ho'.cells]) (by simp) (by simp [ho'.cells, ho'.ok]) (by omega) ?_))
    refine ⟨lfad hj (by simp) (eqA_ptr0 _ _), lfad hj (by simp) (eqA_ptr0 _ _), lld hj (v := a) rfl (ApdT.eqA ha), ?_⟩
    refine p27_13 (in_add (by omega) (by omega) ?_)
    simp only [ho'.cells, setCells]
    have ha3 : Apd (ts ++ x).length ((ts ++ x) ++ y') 25 a' (rowsT (es ++ [.mk c1 n1 i1 es1])) := by
      rw [rowsT_append]
      simpa [rowsT] using ha'
    have e : ((q : Int) + 1) = ((q + 1 : Nat) : Int) := by omega
    rw [e]
    exact ih (q + 1) k2 _ y' a' _ (by omega) (by simp; omega) (by omega) hk4 (hM.set hmj (DBl_ids ho' (.inl (.capped [])))) (aLs0070 hjl) (by rw [aLs0025 (aLs0030 hne)]; exact hj2) ha3
end
theorem row_eptr {r : List PV} {R : Nat → Option (List PV)} {s : Sto} {o : Nat} {p : PV} (h : r[o]? = some p) {K : AV → Prop} (hK : K (.pv p)) : wLd (env R) s none (.eptr r o) K := by
  simp only [wLd, wPart, aLs0032, h, aLs0065, wO, xL, xM, xF, xG]
  exact hK
section
variable {bs : List (List AV)} {id : Nat} {l : Src} {R : Nat → Option (List PV)} {m M : List (List AV)} {ts : List (Nat × Nat)} {j : Nat} {W : List (List UInt8)}
theorem row_ld8 {r : List PV} (h : r.length = 8) {s : Sto} {K : AV → Prop} (hK : K (.agg (r.map .pv))) : wLd (env R) s (some 8) (.eptr r 0) K := by
  simp only [wLd, wPart, aLs0062, h, aLs0040, xL, xM, xF, xG]
  refine ⟨by omega, ?_⟩
  rw [aLs0019 (by simp [h])]
  exact hK
theorem map_ids (n : Nat) : ∀ r : List PV, idsLtL n (r.map .pv) = true
  | [] => rfl
  | p :: r => by simp [idsLtL, idsLt, map_ids n r]
theorem toPVs_map : ∀ r : List PV, toPVs (r.map .pv) = some r
  | [] => rfl
  | p :: r => by simp [toPVs, tpP, toPVs_map r]
theorem ex_abs {k : Nat} {x : List (Nat × Nat)} {t1 t5 t6 t7 : AV} {rows : List (List PV)} (hA : RowsO t1 rows) (hX : DX rows) (hl : rows.length < 95) {ro rt : Nat} (hrt : rt ≤ ts.length) {QR : AV → Sto → Prop}
    (K : ∀ y t8 sub, (∀ r ∈ sub, r ∈ rows) → sub ≠ [] → sub.length ≤ rows.length → RowsO t8 sub → P27_7 R 0 ro rt (.ptr id 0) t1 t5 t6 t7 t8 ⟨ST bs id l k ++ M, (ts ++ x) ++ y⟩ QR) :
    ∀ (i q : Nat) (y : List (Nat × Nat)) (t8 : AV) (sub : List (List PV)), q + i = rows.length → (∀ r ∈ sub, r ∈ rows) → sub.length ≤ q → ((∃ p r, p < q ∧ rows[p]? = some r ∧ r[6]? = some (.sc (.bool false))) → sub ≠ []) → Apd (ts ++ x).length ((ts ++ x) ++ y) 87 t8 sub →
      P27_4 R 0 ro rt (.ptr id 0) t1 t5 t6 t7 t8 (I64 q) ⟨ST bs id l k ++ M, (ts ++ x) ++ y⟩ QR := by
  intro i
  induction i with
  | zero =>
    intro q y t8 sub hq hm hs hne ha
    refine p27_4 ?_
    simp only [wLen, hA.lenA, wO]
    refine in_lss ?_
    rw [aLs0035 (by omega)]
    refine co_f (K y t8 sub hm (hne ?_) (by omega) ha.rowsO)
    obtain ⟨r, hr, he⟩ := hX.abs
    obtain ⟨p, hp⟩ := List.mem_iff_getElem?.1 hr
    have := (aLs0014.1 hp).1
    exact ⟨p, r, by omega, hp, he⟩
  | succ i ih =>
    intro q y t8 sub hq hm hs hne ha
    obtain ⟨row, hrow⟩ : ∃ row, rows[q]? = some row := ⟨_, aLs0008 (by omega)⟩
    have hmem := aLs0013 hrow
    have hr8 := (hX.row row hmem).len
    obtain ⟨c, hc⟩ := (hX.row row hmem).2
    have hrow' : rows[((q : Nat) : Int).toNat]? = some row := by simpa using hrow
    refine p27_4 ?_
    simp only [wLen, hA.lenA, wO]
    refine in_lss ?_
    rw [aLs0033 (by omega)]
    refine co_t (p27_6 (Tel.wIdx_rowsO hA (by omega) hrow' hr8 (by omega) ?_))
    simp only [wFad, xF, xG]
    refine row_eptr (R := R) (o := 6) hc ?_
    have e1 : ((q : Int) + 1) = ((q + 1 : Nat) : Int) := by omega
    cases c with
    | true =>
      refine co_f (p27_9 (in_add (by omega) (by omega) ?_))
      rw [e1]
      refine ih (q + 1) y t8 sub (by omega) hm (by omega) (fun ⟨p, r, hp, h1, h2⟩ => hne ⟨p, r, ?_, h1, h2⟩) ha
      by_cases hpq : p = q
      · subst hpq
        rw [hrow] at h1
        simp only [aLs0001] at h1
        subst h1
        rw [hc] at h2
        simp at h2
      · omega
    | false =>
      refine co_t (Tel.wIdx_rowsO hA (by omega) hrow' hr8 (by omega) (row_ld8 hr8 ?_))
      refine bsl_row (row := row) rfl (by simp [hr8]) (by omega) (by omega) (hX.row row hmem).ok (toPVs_map row) hr8 ⟨by simp, ?_⟩
      refine wApp_row (k := 8) (bytes := 112) ha (by simp [LFE]; omega) (fun r hr => hX.len r (hm r hr)) hr8 (by omega) (hX.row row hmem).ok (by have := hs; omega) (by have := hs; omega) fun a' y' h => ?_
      refine p27_9 (in_add (by omega) (by omega) ?_)
      rw [e1]
      refine ih (q + 1) y' a' (sub ++ [row]) (by omega) (fun r hr => ?_) (by simp; omega) (fun _ => by simp) h
      rcases aLs0016.1 hr with hr | hr
      · exact hm r hr
      · simp only [aLs0054] at hr; rw [hr]; exact hmem
theorem ex_pick (hB : Base bs id l) (hW : (env R).G 4 = some (strRow W)) (h4 : W.length = 4) (sW : Short W) {k : Nat} (hM : Loc bs m M) (hmj : m.length ≤ j) (hk : k ≤ l.length) {x : List (Nat × Nat)} {w : List UInt8} {ar : Nat} {c : Bool} (hj : M[j]? = some (DBl w ar 0 [] (.capped []) c (.capped [])))
    {t1 t5 t6 t8 : AV} {rows sub : List (List PV)} (hA : Apd ts.length (ts ++ x) 87 t1 rows) (hX : DX rows) (hl : rows.length < 95) (hw : w.length < 2 ^ 50) (har : ar ≤ 2) {ro rt : Nat} (hro : ro ≤ id) (hrt : rt ≤ ts.length) (hs1 : ∀ r ∈ sub, r ∈ rows) (hs2 : sub ≠ []) (hs3 : sub.length ≤ rows.length) (h8 : RowsO t8 sub) (y : List (Nat × Nat)) {QR : AV → Sto → Prop}
    (K : ∀ k' M' t1' x' row, k ≤ k' → k' ≤ l.length → Loc bs m M' → DRow row → Apd ts.length (ts ++ x') 87 t1' (rows ++ [row]) → P27_11 R 0 ro rt (.ptr id 0) t1' t5 t6 ⟨ST bs id l k' ++ M', ts ++ x'⟩ QR) :
    P27_7 R 0 ro rt (.ptr id 0) t1 t5 t6 (.ptr (bs.length + j) 0) t8 ⟨ST bs id l k ++ M, (ts ++ x) ++ y⟩ QR := by
  have hlt := hB.lt
  have hlen := hB.len
  have hsl : 0 < sub.length := aLs0072.2 hs2
  refine p27_7 ?_
  simp only [wLen, h8.lenA, wO]
  refine wCall_do (next_spec (n := sub.length) hB hM.ok hk (by omega) (by omega) _ (by simpa [LFE] using hro) _) ?_
  rintro v s1 ⟨r, k1, rfl, hr1, hr2, hk1, hk2, rfl⟩
  obtain ⟨row, hrow⟩ : ∃ row, sub[r.toNat]? = some row := ⟨_, aLs0008 (by omega)⟩
  have hD := hX.row row (hs1 row (aLs0013 hrow))
  have hr8 := hD.len
  refine Tel.wIdx_rowsO h8 hr1 hrow hr8 (by omega) (row_ld8 hr8 ?_)
  obtain ⟨⟨name, n, rest, hrw, h6, hn, hnl, hok⟩, _⟩ := hD
  generalize hAB : row.map AV.pv = AB
  have hABl : AB.length = 8 := by rw [← hAB]; simp [hr8]
  have hABo : AB.all okCell = true := by rw [← hAB]; exact hok
  have hAB0 : AB[0]? = some (SS name) := by rw [← hAB, hrw]; rfl
  have hAB1 : AB[1]? = some (I64 n) := by rw [← hAB, hrw]; rfl
  have hABi : ∀ n, idsLtL n AB = true := by
    intro n
    rw [← hAB]
    exact map_ids n row
  have hABn : AB ≠ [] := by rintro rfl; simp at hABl
  simp only [wNew]
  have el : (ST bs id l k1 ++ M).length = bs.length + M.length := by simp [ST_len]
  have e8 : (ST bs id l k1 ++ M) ++ [Z8] = ST bs id l k1 ++ (M ++ [Z8]) := by simp
  rw [el, e8]
  have hz : (M ++ [Z8])[M.length]? = some Z8 := by rw [get_app0]; rfl
  refine lst hz (by simp [LFE]; omega) (by rfl) (by simpa [ceA] using hABl) (by simp) (by simpa [ceA] using hABo) (by omega) ?_
  have es : (M ++ [Z8]).set M.length (setCells Z8 0 (cellsOf (.agg AB))) = M ++ [AB] := by
    rw [set_app0]
    simp only [List.set_cons_zero, ceA]
    congr 2
    obtain ⟨a0, a1, a2, a3, a4, a5, a6, a7, rfl⟩ : ∃ a0 a1 a2 a3 a4 a5 a6 a7, AB = [a0, a1, a2, a3, a4, a5, a6, a7] := by
      rcases AB with _ | ⟨a, _ | ⟨b, _ | ⟨c, _ | ⟨d, _ | ⟨e, _ | ⟨f, _ | ⟨g, _ | ⟨h, _ | ⟨i, r⟩⟩⟩⟩⟩⟩⟩⟩⟩ <;> simp at hABl
      exact ⟨_, _, _, _, _, _, _, _, rfl⟩
    simp [setCells]
  rw [es]
  have hjl := (aLs0014.1 hj).1
  have hz2 : (M ++ [AB])[M.length]? = some AB := by rw [get_app0]; rfl
  have hj2 : (M ++ [AB])[j]? = some (DBl w ar 0 [] (.capped []) c (.capped [])) := by rw [aLs0012 hjl]; exact hj
  refine lfad hz2 hABn (lld hz2 hAB0 ?_)
  refine bd_of (cs := [I64 2, SS name, I64 0, .capped []]) (by simp [fillS, setCells, ceS, ceI, okS, okI]) ?_
  refine lfad hj2 (by simp) (lst hj2 (by simp [LFE]; omega) (by rfl) (by simp [ceA]) (by simp) (by simp [ceA, okS, okI, okC]) (by omega) ?_)
  simp only [ceA, setCells]
  refine ex_super (R := R) (m := m) (j := j) (w := w) (ar := ar) (sn := name) (c := c) (x := x) (j2 := M.length) (AB := AB) (n := n) (k0 := k1) hB hW h4 sW hmj (by omega) hAB1 hn hA hX hl har hro hrt ?_ n 0 k1 _ y (.capped []) [] (by omega) rfl (aLs0005 _) hk2 ?_ ?_ ?_ (.inl (by simp [rowsT]))
  · intro k' M' y' a aa h1 h2 h3 h5 h6'
    refine ex_fields hB hW h4 sW h3 hmj h2 h5 h6' (by rw [← aLs0023]; exact hA.grow) hX hl hw har hro hrt fun k2 M2 t1' x' row' g1 g2 g3 g4 g5 => K k2 M2 t1' x' row' (by omega) g2 g3 g4 g5
  · refine Loc.set (hM.push hABi) hmj (b := DBl w ar 2 name (.capped []) c (.capped [])) (DBl_ids (.inl (.capped [])) (.inl (.capped [])))
  · exact aLs0070 (by simp; omega)
  · rw [aLs0025 (by omega)]; exact hz2
end
theorem eqAL_Z8 : eqAL Z8 Z8 = true := by kernel_rfl
section
variable {bs : List (List AV)} {id : Nat} {l : Src} {R : Nat → Option (List PV)} {m : List (List AV)} {ts : List (Nat × Nat)} {W X : List (List UInt8)}
theorem ex_one (hB : Base bs id l) (hW : (env R).G 4 = some (strRow W)) (h4 : W.length = 4) (sW : Short W) (hG : (env R).G 5 = some (strRow X)) (sX : ∀ w ∈ X, w.length < 2 ^ 50) {k : Nat} {M : List (List AV)} (hM : Loc bs m M) (hk : k ≤ l.length) {x : List (Nat × Nat)}
    {t1 t5 : AV} {q : Nat} (hq : q < X.length) {rows : List (List PV)} (hA : Apd ts.length (ts ++ x) 87 t1 rows) (hX : DX rows) (hl : rows.length < 95) {ro rt : Nat} (hro : ro ≤ id) (hrt : rt ≤ ts.length) {QR : AV → Sto → Prop}
    (K : ∀ k' M' t1' x' row, k ≤ k' → k' ≤ l.length → Loc bs m M' → DRow row → Apd ts.length (ts ++ x') 87 t1' (rows ++ [row]) → P27_11 R 0 ro rt (.ptr id 0) t1' t5 (I64 q) ⟨ST bs id l k' ++ M', ts ++ x'⟩ QR) :
    P27_2 R 0 ro rt (.ptr id 0) t1 t5 (I64 q) ⟨ST bs id l k ++ M, ts ++ x⟩ QR := by
  have hlt := hB.lt
  have hlen := hB.len
  obtain ⟨w, hw⟩ : ∃ w, X[((q : Nat) : Int).toNat]? = some w := ⟨_, aLs0008 (by simpa using hq)⟩
  have hwl := sX w (aLs0013 hw)
  have h0 : (0 : Int) ≤ (q : Nat) := by omega
  refine p27_2 ?_
  have eS : ∀ k1, ST bs id l k1 ++ M ++ [Z8] = ST bs id l k1 ++ (M ++ [Z8]) := fun k1 => by simp
  have el : (ST bs id l k ++ M).length = bs.length + M.length := by simp [ST_len]
  simp only [eS, el]
  have hM1 : Loc bs m (M ++ [Z8]) := hM.push fun n => by simp [idsLtL, idsLt]
  have hz : (M ++ [Z8])[M.length]? = some Z8 := by rw [get_app0]; rfl
  refine ld_glob hG (idx_str h0 hw (ld_str ?_))
  refine wCall_do (next_spec (n := 3) hB hM1.ok hk (by omega) (by omega) _ (by simpa [LFE] using hro) _) ?_
  rintro v s1 ⟨r, k1, rfl, hr1, hr2, hk1, hk2, rfl⟩
  refine wCall_do (next_spec (n := 2) hB hM1.ok hk2 (by omega) (by omega) _ (by simpa [LFE] using hro) _) ?_
  rintro v s1 ⟨r2, k2, rfl, hr3, hr4, hk3, hk4, rfl⟩
  obtain ⟨ar, rfl⟩ := aLs0081 hr1
  refine in_eql ?_
  generalize (r2 == 1) = c
  refine bd_of (cs := DBl w ar 0 [] (.capped []) c (.capped [])) (by simp [fillS, setCells, ceS, ceI, ceB, okS, okI, Go.Tel.okB]) ?_
  refine lst hz (by simp [LFE]; omega) (by rfl) (by simp [ceA]) (by simp) (by simp [ceA, okS, okI, okC, Go.Tel.okB]) (by omega) ?_
  have es : (M ++ [Z8]).set M.length (setCells Z8 0 (cellsOf (.agg (DBl w ar 0 [] (.capped []) c (.capped []))))) = M ++ [DBl w ar 0 [] (.capped []) c (.capped [])] := by
    rw [set_app0]
    simp [ceA, setCells]
  rw [es]
  have chk : ∀ k1, (wO (idOf (.ptr (bs.length + M.length) 0)) fun id' => wO (⟨ST bs id l k1 ++ (M ++ [Z8]), ts ++ x⟩ : Sto).bs[id']? fun cs' => eqAL cs' Z8 = true) := fun k1 => by
    simp only [idOf, wO, mget, hz]
    exact eqAL_Z8
  refine ⟨ld_glob hG (eqA_strRows X), ld_glob hG (eqA_strRows X), idx_str h0 hw (eqA_eptr w), idx_str h0 hw (eqA_eptr w), ld_str (eqA_SS w), ld_str (eqA_SS w), chk k, chk k1, chk k2, ?_⟩
  have hM2 : Loc bs m (M ++ [DBl w ar 0 [] (.capped []) c (.capped [])]) := hM.push (DBl_ids (.inl (.capped [])) (.inl (.capped [])))
  have hj : (M ++ [DBl w ar 0 [] (.capped []) c (.capped [])])[M.length]? = some (DBl w ar 0 [] (.capped []) c (.capped [])) := by rw [get_app0]; rfl
  have hmj : m.length ≤ M.length := by
    obtain ⟨B, rfl⟩ := hM.pre
    simp
  refine wCall_do (next_spec (n := 3) hB hM2.ok hk4 (by omega) (by omega) _ (by simpa [LFE] using hro) _) ?_
  rintro v s1 ⟨r3, k3, rfl, hr5, hr6, hk5, hk6, rfl⟩
  refine in_gtr ?_
  cases decide (r3 > 0) with
  | false => exact co_f (ex_fields hB hW h4 sW hM2 hmj hk6 hj (.inl (.capped [])) hA hX hl hwl (by omega) hro hrt fun k' M' t1' x' row g1 g2 g3 g4 g5 => K k' M' t1' x' row (by omega) g2 g3 g4 g5)
  | true =>
    refine co_t ?_
    have := ex_abs (R := R) (bs := bs) (id := id) (l := l) (M := M ++ [DBl w ar 0 [] (.capped []) c (.capped [])]) (k := k3) (x := x) (t5 := t5) (t6 := I64 q) (t7 := .ptr (bs.length + M.length) 0) (QR := QR) (ro := ro) hA.rowsO hX hl hrt (fun y t8 sub s1 s2 s3 s4 =>
      ex_pick hB hW h4 sW hM2 hmj hk6 hj hA hX hl hwl (by omega) hro hrt s1 s2 s3 s4 y fun k' M' t1' x' row g1 g2 g3 g4 g5 => K k' M' t1' x' row (by omega) g2 g3 g4 g5) rows.length 0 [] (.capped []) [] (by omega) (fun r h => by cases h) (aLs0005 _) (fun ⟨p, r, h, _⟩ => by omega) (.inl rfl)
    simpa using this
theorem ex_loop (hB : Base bs id l) (hW : (env R).G 4 = some (strRow W)) (h4 : W.length = 4) (sW : Short W) (hG : (env R).G 5 = some (strRow X)) (sX : ∀ w ∈ X, w.length < 2 ^ 50) {n : Nat} (hn : n ≤ X.length) (hn4 : n ≤ 4) {ro rt : Nat} (hro : ro ≤ id) (hrt : rt ≤ ts.length) {QR : AV → Sto → Prop} {k0 : Nat}
    (K : ∀ k' M' t1' x' rows', k0 ≤ k' → k' ≤ l.length → Loc bs m M' → DX rows' → rows'.length < 99 → RowsO t1' rows' → QR t1' ⟨ST bs id l k' ++ M', ts ++ x'⟩) :
    ∀ (i q k : Nat) (M : List (List AV)) (x : List (Nat × Nat)) (t1 : AV) (rows : List (List PV)), q + i = n → k0 ≤ k → k ≤ l.length → Loc bs m M → Apd ts.length (ts ++ x) 87 t1 rows → DX rows → rows.length ≤ 90 + q →
      P27_1 R 0 ro rt (.ptr id 0) t1 (I64 n) (I64 q) ⟨ST bs id l k ++ M, ts ++ x⟩ QR := by
  intro i
  induction i with
  | zero =>
    intro q k M x t1 rows hq hk0 hk hM hA hX hl
    refine p27_1 (in_lss ?_)
    rw [aLs0035 (by omega)]
    exact co_f (p27_3 (K k M t1 x rows hk0 hk hM hX (by omega) hA.rowsO))
  | succ i ih =>
    intro q k M x t1 rows hq hk0 hk hM hA hX hl
    refine p27_1 (in_lss ?_)
    rw [aLs0033 (by omega)]
    refine co_t (ex_one hB hW h4 sW hG sX hM hk (by omega) hA hX (by omega) hro hrt fun k' M' t1' x' row g1 g2 g3 g4 g5 => ?_)
    refine p27_11 (in_add (by omega) (by omega) ?_)
    have e : ((q : Int) + 1) = ((q + 1 : Nat) : Int) := by omega
    rw [e]
    exact ih (q + 1) k' M' x' t1' _ (by omega) (by omega) g2 g3 g5 (hX.snoc g4) (by simp; omega)
theorem extra_spec (hB : Base bs id l) (hW : (env R).G 4 = some (strRow W)) (h4 : W.length = 4) (sW : Short W) (hG : (env R).G 5 = some (strRow X)) (sX : ∀ w ∈ X, w.length < 2 ^ 50) (hX4 : 4 ≤ X.length) (hm : LocB bs m) {k : Nat} (hk : k ≤ l.length) {rows : List (List PV)} (hX : DX rows) (hl : rows.length ≤ 90) (L : Lim) (hro : L.ro ≤ id) (hrt : L.rt ≤ ts.length) :
    ∃ v s', (∃ rows' k' x, RowsO v rows' ∧ DX rows' ∧ rows'.length < 99 ∧ k ≤ k' ∧ k' ≤ l.length ∧ s' = ⟨ST bs id l k' ++ m, ts ++ x⟩) ∧ CallE (env R) L 27 [.ptr id 0, .capped rows] ⟨ST bs id l k ++ m, ts⟩ v s' := by
  have hlen := hB.len
  refine m27 (by simp [noIdL, noId]) (p27_0 ?_)
  refine wCall_do (next_spec (n := 5) hB hm hk (by omega) (by omega) _ (by simpa [LFE] using hro) ts) ?_
  rintro v s1 ⟨r, k1, rfl, hr1, hr2, hk1, hk2, rfl⟩
  obtain ⟨n, rfl⟩ := aLs0081 hr1
  have := ex_loop (R := R) (ts := ts) (m := m) (n := n) (ro := L.ro) (rt := L.rt) (k0 := k1) hB hW h4 sW hG sX (by omega) (by omega) hro hrt (QR := QM (L.rr 27) (ST bs id l k ++ m).length fun v s' => ∃ rows' k' x, RowsO v rows' ∧ DX rows' ∧ rows'.length < 99 ∧ k ≤ k' ∧ k' ≤ l.length ∧ s' = ⟨ST bs id l k' ++ m, ts ++ x⟩)
    (fun k' M' t1' x' rows' g1 g2 g3 g4 g5 g6 => by
      obtain ⟨B, rfl⟩ := g3.pre
      have e : (ST bs id l k' ++ (m ++ B)).take (ST bs id l k ++ m).length = ST bs id l k' ++ m := by
        rw [← aLs0023, aLs0111 (by simp [ST_len]), aLs0019 (by simp [ST_len])]
      refine QM_rows g6 ?_ fun a' ha' => ?_
      · simp only [e]
        have := hB.all hm k'
        simpa [ST_len] using this
      · simp only [e]
        exact ⟨rows', k', x', ha', g4, g5, by omega, g2, rfl⟩) n 0 k1 m [] (.capped rows) rows (by omega) (aLs0005 _) hk2 ⟨hm, [], by simp⟩ (.inl rfl) hX (by omega)
  simpa using this
end
def boolB : PV → Option Bool
  | .sc (.bool b) => some b
  | _ => none
def dxB : Option AV → Bool
  | some (.capped rows) => decide (rows.length ≤ 90) && (declB rows && (rows.all (fun r => (r[6]?.bind boolB).isSome) && rows.any (fun r => r[6]?.bind boolB == some false)))
  | _ => false
theorem boolB_some {r : List PV} {b : Bool} (h : r[6]?.bind boolB = some b) : r[6]? = some (.sc (.bool b)) := by
  cases h6 : r[6]? with
  | none => rw [h6] at h; simp at h
  | some p =>
    rw [h6] at h
    simp only [aLs0106] at h
    unfold boolB at h
    split at h
    · simp only [aLs0001] at h; rw [h]
    · simp at h
theorem base_ev2 {R : Nat → Option (List PV)} : dxB (pureV (env R) 60 17 []) = true := by kernel_rfl
theorem base_spec2 {R : Nat → Option (List PV)} : PureC (env R) 17 [] fun v => ∃ rows, v = .capped rows ∧ DX rows ∧ rows.length ≤ 90 := by
  have h := base_ev2 (R := R)
  cases hv : pureV (env R) 60 17 [] with
  | none => rw [hv] at h; cases h
  | some v =>
    rw [hv] at h
    unfold dxB at h
    split at h
    · rename_i rows he
      cases he
      simp only [aLs0002, aLs0079, aLs0015, aLs0067, aLs0028] at h
      obtain ⟨h1, h2, h3, r, h5, h6⟩ := h
      refine ⟨_, ⟨rows, rfl, ⟨fun q hq => ⟨declB_row h2 q hq, ?_⟩, r, h5, boolB_some h6⟩, h1⟩, fun L s => CallE.of_some (callN_pure (args' := []) (by kernel_rfl) (by kernel_rfl) (by simp [closeL]) rfl hv L s)⟩
      obtain ⟨b, hb⟩ := aLs0068.1 (h3 q hq)
      exact ⟨b, boolB_some hb⟩
    · cases h
theorem decls_spec {R : Nat → Option (List PV)} {W X : List (List UInt8)} (hW : (env R).G 4 = some (strRow W)) (h4 : W.length = 4) (sW : Short W) (hG : (env R).G 5 = some (strRow X)) (sX : ∀ w ∈ X, w.length < 2 ^ 50) (hX4 : 4 ≤ X.length) (l : List Int) (hl : l.length < 2 ^ 50) :
    PureC (env R) 9 [.pv (.list (intRows l))] fun v => ∃ rows, Decls v rows := by
  refine e9 (u0 := .pv (.list (intRows l))) (by simp) (p9_0 ?_)
  have hSl := Src.of_length l
  have hB : Base [StB (.of l) 0] 0 (.of l) := ⟨by simp, by simp [StB_ids], by rw [Src.of_length]; omega⟩
  have hST : ∀ k, Tel.ST [StB (.of l) 0] 0 (.of l) k = [StB (.of l) k] := fun k => by simp [Tel.ST]
  have h0 : LocB [StB (.of l) 0] [] := fun b hb => by cases hb
  refine wCall_do (new_spec l _ _) ?_
  rintro v s1 ⟨rfl, rfl⟩
  have e0 : (⟨[] ++ [StB (.of l) 0], []⟩ : Sto) = ⟨Tel.ST [StB (.of l) 0] 0 (.of l) 0 ++ [], []⟩ := by simp [hST]
  show wCall (env R) _ _ _ ⟨[] ++ [StB (.of l) 0], []⟩ _
  rw [e0]
  refine wCall_pure base_spec2 ?_
  rintro dv ⟨rows, rfl, hX, hrl⟩
  refine wCall_do (extra_spec hB hW h4 sW hG sX hX4 h0 (k := 0) (by omega) hX hrl (LFE (env R) 9 0 0 0) (by simp [LFE]) (ts := []) (by simp [LFE])) ?_
  rintro v s1 ⟨rows', k', x, hv, hX', hl', _, hk', rfl⟩
  obtain ⟨a', h1, h2⟩ := hv.closed (Tel.ST [StB (.of l) 0] 0 (.of l) k' ++ []) 0
  exact ⟨a', h1, rows', hX'.decls (.inl h2) (by omega)⟩
def Dl : List UInt8 → Prop
  | [] => True
  | c :: _ => c = 32 ∨ c = 41
theorem nameAt_all : ((List.range 260).all fun i => isId (nameAt i) && !resv.contains (nameAt i)) = true := by kernel_rfl
theorem fresh_name {used : List (List UInt8)} : isId (fresh used) = true ∧ resv.contains (fresh used) = false := by
  have := freshI_lt (used := used) 259 0
  have h1 := aLs0015.1 nameAt_all (freshI used 259 0) (aLs0061.2 (by omega))
  simpa [fresh] using h1
structure Sc (N M sc : List (List UInt8)) : Prop where
  newN : ∀ w ∈ sc, w ∉ N
  newM : ∀ w ∈ sc, w ∉ M
  name : ∀ w ∈ sc, isId w = true ∧ resv.contains w = false
  dup : sc.Nodup
theorem Sc.nil {N M : List (List UInt8)} : Sc N M [] := ⟨fun _ h => (by cases h), fun _ h => (by cases h), fun _ h => (by cases h), List.nodup_nil⟩
theorem Sc.push {N M sc : List (List UInt8)} (h : Sc N M sc) {w : List UInt8} (hN : w ∉ N ++ sc) (hM : w ∉ M ++ sc) (hw : isId w = true ∧ resv.contains w = false) : Sc N M (sc ++ [w]) := by
  simp only [aLs0016, not_or] at hN hM
  refine ⟨?_, ?_, ?_, ?_⟩
  · intro x hx
    rcases aLs0016.1 hx with hx | hx
    · exact h.newN x hx
    · rw [aLs0054.1 hx]; exact hN.1
  · intro x hx
    rcases aLs0016.1 hx with hx | hx
    · exact h.newM x hx
    · rw [aLs0054.1 hx]; exact hM.1
  · intro x hx
    rcases aLs0016.1 hx with hx | hx
    · exact h.name x hx
    · rw [aLs0054.1 hx]; exact hw
  · rw [List.nodup_append]
    refine ⟨h.dup, by simp, ?_⟩
    intro a ha b hb
    rw [aLs0054.1 hb]
    rintro rfl
    exact hN.2 ha
theorem fresh_notin {used : List (List UInt8)} (h : used.length < 260) : fresh used ∉ used := by
  intro hc
  have := fresh_new h
  rw [show nameAt (freshI used 259 0) = fresh used from rfl] at this
  simp [hc] at this
theorem root_cases {k i : Int} {n : List UInt8} {ts : List Ty} (h : root k n i ts = true) :
    (k = 0 ∧ n = [] ∧ i = 0 ∧ ts = []) ∨ (k = 1 ∧ n = [] ∧ i = 0 ∧ ts = []) ∨ (k = 2 ∧ i = 0 ∧ isId n = true ∧ resv.contains n = false) ∨ (k = 3 ∧ n = [] ∧ i = 0) ∨ (k = 4 ∧ n = [] ∧ i = 0 ∧ ts ≠ []) ∨ (k = 5 ∧ n = [] ∧ ts = [] ∧ 0 ≤ i) ∨ (k = 6 ∧ n = [] ∧ i = 0 ∧ ∃ b body, ts = [b, body]) := by
  unfold root at h
  simp only [aLs0002, aLs0029, aLs0028] at h
  obtain ⟨⟨h1, h2⟩, h3⟩ := h
  unfold shape at h3
  by_cases k0 : k = 0
  · subst k0
    simp at h1 h2 h3
    exact .inl ⟨rfl, h1, h2, h3⟩
  by_cases k1 : k = 1
  · subst k1
    simp at h1 h2 h3
    exact .inr (.inl ⟨rfl, h1, h2, h3⟩)
  by_cases k2 : k = 2
  · subst k2
    simp [-List.contains_eq_mem] at h1 h2 h3
    exact .inr (.inr (.inl ⟨rfl, h2, h3.1.1.1, h3.1.1.2⟩))
  by_cases k3 : k = 3
  · subst k3
    simp at h1 h2 h3
    exact .inr (.inr (.inr (.inl ⟨rfl, h1, h2⟩)))
  by_cases k4 : k = 4
  · subst k4
    simp at h1 h2 h3
    refine .inr (.inr (.inr (.inr (.inl ⟨rfl, h1, h2, ?_⟩))))
    rintro rfl
    simp at h3
  by_cases k5 : k = 5
  · subst k5
    simp at h1 h2 h3
    exact .inr (.inr (.inr (.inr (.inr (.inl ⟨rfl, h1, h3.1.1, h3.1.2⟩)))))
  by_cases k6 : k = 6
  · subst k6
    simp at h1 h2 h3
    refine .inr (.inr (.inr (.inr (.inr (.inr ⟨rfl, h1, h2, ?_⟩)))))
    rcases ts with _ | ⟨b, _ | ⟨c, _ | ⟨d, l⟩⟩⟩ <;> simp at h3
    exact ⟨_, _, rfl⟩
  · simp [k0, k1, k2, k3, k4, k5, k6] at h3
def atomW (k : Int) (n : List UInt8) (i : Int) (sc : List (List UInt8)) : List UInt8 := bif k == 0 then [65, 110, 121] else bif k == 1 then [78, 101, 118, 101, 114] else bif k == 5 then varT sc i else n
def isAt (k : Int) (ts : List Ty) : Bool := k == 0 || (k == 1 || (k == 5 || (k == 2 && ts.length == 0)))
theorem fmt_atom {N : List (List UInt8)} {k i : Int} {n : List UInt8} {ts : List Ty} {sc : List (List UInt8)} (h : isAt k ts = true) : fmt N (.mk k n i ts) sc = atomW k n i sc := by
  unfold isAt at h
  simp only [aLs0029, aLs0002, aLs0028] at h
  have h6 : k ≠ 6 := by omega
  rw [fmt_eq N k n i ts sc h6]
  unfold atomW
  rcases h with rfl | rfl | rfl | ⟨rfl, h⟩ <;> simp
  · simp [h]
def hdX (k : Int) (n : List UInt8) : List UInt8 := bif k == 6 then [101, 120, 105, 115, 116, 115] else hdT k n
def tlX (N : List (List UInt8)) (k : Int) (ts : List Ty) (sc : List (List UInt8)) : List UInt8 := bif k == 6 then
    match ts with
    | [b, body] => 32 :: (fresh (N ++ sc) ++ 32 :: (fmt N b [] ++ 32 :: (fmt N body (sc ++ [fresh (N ++ sc)]) ++ [41])))
    | _ => []
  else fmtL N ts sc ++ [41]
theorem fmt_node {N : List (List UInt8)} {k i : Int} {n : List UInt8} {ts : List Ty} {sc : List (List UInt8)} (hr : root k n i ts = true) (h : isAt k ts = false) : fmt N (.mk k n i ts) sc = 40 :: (hdX k n ++ tlX N k ts sc) := by
  by_cases h6 : k = 6
  · subst h6
    rcases root_cases hr with h | h | h | h | h | h | ⟨_, rfl, rfl, b, body, rfl⟩
    · omega
    · omega
    · omega
    · omega
    · omega
    · omega
    · rw [fmt_ex]
      simp [hdX, tlX]
  · rw [fmt_eq N k n i ts sc h6]
    have b6 : (k == 6) = false := by simpa using h6
    unfold isAt at h
    simp only [aLs0094] at h
    obtain ⟨h0, h1, h5, h2⟩ := h
    unfold hdX tlX
    rw [h0, h1, h5, h2, b6]
    simp
theorem noms_mem : ∀ {l : List Ty} {a : Ty} {w : List UInt8}, a ∈ l → w ∈ noms a → w ∈ nomsL l
  | [], _, _, h, _ => by cases h
  | b :: l, a, w, h, hw => by
    simp only [nomsL, aLs0016]
    rcases aLs0006.1 h with rfl | h
    · exact .inl hw
    · exact .inr (noms_mem h hw)
theorem Dl.c32 {r : List UInt8} : Dl (32 :: r) := .inl rfl
theorem wB_not {c : UInt8} (h : c = 32 ∨ c = 41) : wB c = false := by rcases h with rfl | rfl <;> rfl
theorem takeW {w r : List UInt8} (hw : w.all wB = true) (hr : Dl r) : (w ++ r).takeWhile wB = w := by
  induction w with
  | nil =>
    cases r with
    | nil => rfl
    | cons c r => simp [aLs0100, wB_not hr]
  | cons c w ih =>
    simp only [aLs0077, aLs0002] at hw
    simp [aLs0100, hw.1, ih hw.2]
theorem wB_beq {c : UInt8} (h : wB c = true) : Nat.beq c.toNat 32 = false ∧ Nat.beq c.toNat 40 = false ∧ Nat.beq c.toNat 41 = false := by
  have : ∀ {a b : Nat}, ¬ a = b → Nat.beq a b = false := fun h => aLs0076.2 fun e => h (aLs0007 e)
  rw [wB_eq] at h
  simp only [isWB, isLet, isDig, aLs0029, aLs0002, aLs0079, aLs0028] at h
  exact ⟨this (by omega), this (by omega), this (by omega)⟩
theorem par_word {F p o : Nat} {w r : List UInt8} {cs : List (List PV)} {st : List (Nat × List (List PV))} (hw : w.all wB = true) (h0 : w ≠ []) (hl : w.length ≤ 24) (hr : Dl r) :
    parG (F + 1) (w ++ r) p ((o, cs) :: st) = parG F r (p + w.length) ((o, cs ++ [nodeR 1 w [] p]) :: st) := by
  obtain ⟨c, w', rfl⟩ := aLs0122 h0
  have ht := takeW hw hr
  simp only [aLs0077, aLs0002] at hw
  obtain ⟨b1, b2, b3⟩ := wB_beq hw.1
  rw [aLs0037] at ht ⊢
  simp only [parG, b1, b2, b3, hw.1, ht, aLs0009, aLs0004, aLs0099 hl]
  congr 1
  simp
theorem par_sp {F p : Nat} {r : List UInt8} {st : List (Nat × List (List PV))} : parG (F + 1) (32 :: r) p st = parG F r (p + 1) st := rfl
theorem par_open {F p : Nat} {r : List UInt8} {st : List (Nat × List (List PV))} (h : st.length ≤ 40) : parG (F + 1) (40 :: r) p st = parG F r (p + 1) ((p, []) :: st) := by
  have b1 : Nat.beq (40 : UInt8).toNat 32 = false := rfl
  have b2 : Nat.beq (40 : UInt8).toNat 40 = true := rfl
  simp only [parG, b1, b2, aLs0009, aLs0004, aLs0099 h]
theorem par_close {F p o o' : Nat} {r : List UInt8} {cs cs' : List (List PV)} {st : List (Nat × List (List PV))} : parG (F + 1) (41 :: r) p ((o, cs) :: (o', cs') :: st) = parG F r (p + 1) ((o', cs' ++ [nodeR 3 [] cs o]) :: st) := rfl
theorem isId_wB {n : List UInt8} (h : isId n = true) : n.all wB = true := by
  unfold isId at h
  simp only [aLs0002] at h
  rw [aLs0015]
  intro c hc
  have := aLs0015.1 h.2 c hc
  simp only [aLs0002] at this
  rw [wB_eq]
  exact this.2
theorem lastOf_none {w : List UInt8} {sc : List (List UInt8)} (h : w ∉ sc) : ∀ j, lastOf sc w j = none
  | 0 => rfl
  | j + 1 => by
    have : (sc[j]? == some w) = false := by
      simp only [aLs0088, ne_eq]
      exact fun e => h (aLs0013 e)
    rw [lastOf, this]
    exact lastOf_none h j
theorem lastOf_at {w : List UInt8} {sc : List (List UInt8)} (hd : sc.Nodup) {q : Nat} (hq : sc[q]? = some w) : ∀ j, q < j → lastOf sc w j = some q
  | 0, h => by omega
  | j + 1, h => by
    rw [lastOf]
    by_cases e : q = j
    · subst e
      simp [hq]
    · have : (sc[j]? == some w) = false := by
        simp only [aLs0088, ne_eq]
        intro e2
        have h1 := (aLs0014.1 hq).1
        exact e ((List.getElem?_inj h1 hd).1 (hq.trans e2.symm))
      rw [this]
      exact lastOf_at hd hq j (by omega)
theorem varT_in {sc : List (List UInt8)} {i : Int} (h0 : 0 ≤ i) (h1 : i < sc.length) : sc[((sc.length : Int) - 1 - i).toNat]? = some (varT sc i) := by
  obtain ⟨w, hw⟩ : ∃ w, sc[((sc.length : Int) - 1 - i).toNat]? = some w := ⟨_, aLs0008 (by omega)⟩
  unfold varT
  rw [hw, aLs0033 h1]
  rfl
theorem notres {w : List UInt8} (h : resv.contains w = false) : (w == [65, 110, 121]) = false ∧ (w == [78, 101, 118, 101, 114]) = false ∧ (w == [101, 120, 105, 115, 116, 115]) = false ∧ (w == [116, 117, 112, 108, 101]) = false ∧ (w == [117, 110, 105, 111, 110]) = false := by
  simp only [resv, List.contains_cons, aLs0094] at h
  exact ⟨h.1, h.2.1, h.2.2.2.2.1, h.2.2.1, h.2.2.2.1⟩
theorem word_back {N sc : List (List UInt8)} (hS : Sc N N sc) {k i : Int} {n : List UInt8} {ts : List Ty} (hr : root k n i ts = true) (ha : isAt k ts = true) (hc : clos sc.length (.mk k n i ts) = true) (hn : k = 2 → n ∈ N) (o : Int) :
    wordC (atomW k n i sc) o sc = .inr (.mk k n i ts) ∧ (atomW k n i sc).all wB = true ∧ atomW k n i sc ≠ [] ∧ (atomW k n i sc).length ≤ 24 := by
  unfold isAt at ha
  simp only [aLs0029, aLs0002, aLs0028] at ha
  rcases root_cases hr with ⟨rfl, rfl, rfl, rfl⟩ | ⟨rfl, rfl, rfl, rfl⟩ | ⟨rfl, rfl, h1, h2⟩ | ⟨rfl, _⟩ | ⟨rfl, _⟩ | ⟨rfl, rfl, rfl, h0⟩ | ⟨rfl, _⟩
  · exact ⟨rfl, rfl, by simp [atomW], by simp [atomW]⟩
  · exact ⟨rfl, rfl, by simp [atomW], by simp [atomW]⟩
  · have ht : ts = [] := by
      rcases ha with h | h | h | ⟨_, h⟩
      · omega
      · omega
      · omega
      · exact aLs0115.1 h
    subst ht
    obtain ⟨r1, r2, _⟩ := notres h2
    have hm : n ∉ sc := fun h => hS.newN n h (hn rfl)
    have e : atomW 2 n 0 sc = n := rfl
    rw [e]
    refine ⟨?_, isId_wB h1, isId_ne h1, isId_len h1⟩
    unfold wordC
    rw [r1, r2, lastOf_none hm]
    simp only [aLs0009, h1, h2, aLs0109, Bool.and_self, aLs0004]
  · omega
  · omega
  · have hlt : i < sc.length := by
      simp only [clos] at hc
      cases hd : decide ((sc.length : Int) ≤ i) with
      | true => rw [hd] at hc; simp at hc
      | false => simp at hd; exact hd
    have hin := varT_in h0 hlt
    have hmem := aLs0013 hin
    have e : atomW 5 [] i sc = varT sc i := rfl
    rw [e]
    obtain ⟨n1, n2⟩ := hS.name _ hmem
    obtain ⟨r1, r2, _⟩ := notres n2
    refine ⟨?_, isId_wB n1, isId_ne n1, isId_len n1⟩
    unfold wordC
    rw [r1, r2, lastOf_at hS.dup hin sc.length (by omega)]
    simp only [aLs0009]
    congr 2
    omega
  · omega
def NdT (B g : Nat) (n : Nd) : Prop := okNd n ∧ fewN n ∧ nsize n ≤ B ∧ grow n ≤ g
def NdsT (B g : Nat) (l : List Nd) : Prop := okNds l ∧ fewNs l ∧ nsizeL l ≤ B ∧ ∀ n ∈ l, grow n ≤ g
theorem growL_top {g : Nat} : ∀ {l : List Nd}, (∀ n ∈ l, grow n ≤ g) → growL l ≤ g + 1
  | [], _ => by simp [growL]
  | [t], h => by
    have := h t (by simp)
    simp only [growL]; omega
  | t :: u :: l, h => by
    have h1 := h t (by simp)
    have h2 := growL_top (l := u :: l) fun n hn => h n (aLs0046 _ hn)
    simp only [growL]; omega
theorem NdsT.cons {B C D g : Nat} {n : Nd} {l : List Nd} (h : NdT B g n) (h' : NdsT C g l) (hl : B + C ≤ D) : NdsT D g (n :: l) := by
  obtain ⟨a1, a2, a3, a4⟩ := h
  obtain ⟨b1, b2, b3, b4⟩ := h'
  refine ⟨⟨a1, b1⟩, ⟨a2, b2⟩, by simp only [nsizeL]; omega, fun m hm => ?_⟩
  rcases aLs0006.1 hm with rfl | hm
  · exact a4
  · exact b4 m hm
theorem NdsT.nil {g : Nat} : NdsT 0 g [] := ⟨aLs0000, aLs0000, aLs0005 _, fun _ h => by cases h⟩
theorem NdT.mono {B C g h : Nat} {n : Nd} (x : NdT B g n) (h1 : B ≤ C) (h2 : g ≤ h) : NdT C h n := ⟨x.1, x.2.1, aLs0057 x.2.2.1 h1, aLs0057 x.2.2.2 h2⟩
theorem nds_len : ∀ l : List Nd, l.length ≤ nsizeL l
  | [] => aLs0005 _
  | n :: l => by
    have := nds_len l
    have := nsize_pos n
    simp only [aLs0010, nsizeL]; omega
theorem NdT.list {B g : Nat} {s : List UInt8} {k o : Int} {l : List Nd} (hs : s.length < 2 ^ 60) (h : NdsT B g l) (hB : B < 2 ^ 30) : NdT (B + 1) (g + 1) (.mk k s l o) := by
  have := nds_len l
  have h3 := h.2.2.1
  refine ⟨⟨hs, h.1⟩, ⟨by omega, h.2.1⟩, by simp only [nsize]; omega, growL_top h.2.2.2⟩
theorem NdT.word {s : List UInt8} {k o : Int} {g : Nat} (hs : s.length < 2 ^ 60) : NdT 1 g (.mk k s [] o) := ⟨⟨hs, aLs0000⟩, ⟨by simp, aLs0000⟩, aLs0005 _, aLs0042 _⟩
def Back (N : List (List UInt8)) (t : Ty) (sc : List (List UInt8)) : Prop := ∀ (r : List UInt8) (p o : Nat) (cs : List (List PV)) (st : List (Nat × List (List PV))), Dl r → st.length + depth t ≤ 39 →
  ∃ nd g, (conv nd sc = .inr t ∧ NdT (4 * size t) (depth t) nd) ∧ g ≤ (fmt N t sc).length ∧ ∀ F, parG (F + g) (fmt N t sc ++ r) p ((o, cs) :: st) = parG F r (p + (fmt N t sc).length) ((o, cs ++ [rowN nd]) :: st)
theorem back_list {N sc : List (List UInt8)} : ∀ (ts : List Ty), (∀ t ∈ ts, Back N t sc) → ∀ (r : List UInt8) (p o : Nat) (cs : List (List PV)) (st : List (Nat × List (List PV))), st.length + depthL ts ≤ 39 →
    ∃ nds g, (convL nds sc = .inr ts ∧ NdsT (4 * sizeL ts) (depthL ts) nds) ∧ nds.length = ts.length ∧ g ≤ (fmtL N ts sc).length ∧ ∀ F, parG (F + g) (fmtL N ts sc ++ 41 :: r) p ((o, cs) :: st) = parG F (41 :: r) (p + (fmtL N ts sc).length) ((o, cs ++ rowsN nds) :: st)
  | [], _, r, p, o, cs, st, _ => ⟨[], 0, ⟨rfl, NdsT.nil⟩, rfl, aLs0042 _, fun F => by simp [fmtL, rowsN]⟩
  | t :: ts, H, r, p, o, cs, st, hd => by
    simp only [depthL] at hd
    obtain ⟨nd, g, ⟨c1, c0⟩, c2, c3⟩ := H t (by simp) (fmtL N ts sc ++ 41 :: r) (p + 1) o cs st (by cases ts <;> simp [fmtL, Dl]) (by omega)
    obtain ⟨nds, g2, ⟨d1, d0⟩, d2, d3, d4⟩ := back_list ts (fun u hu => H u (aLs0046 _ hu)) r (p + 1 + (fmt N t sc).length) o (cs ++ [rowN nd]) st (by omega)
    refine ⟨nd :: nds, g2 + g + 1, ⟨by simp only [convL, c1, d1], NdsT.cons (c0.mono (aLs0005 _) (by simp only [depthL]; omega)) ⟨d0.1, d0.2.1, d0.2.2.1, fun n hn => aLs0057 (d0.2.2.2 n hn) (by simp only [depthL]; omega)⟩ (by simp only [sizeL]; omega)⟩, by simp [d2], by simp only [fmtL, aLs0011, aLs0010, aLs0020]; omega, fun F => ?_⟩
    have e1 : fmtL N (t :: ts) sc ++ 41 :: r = 32 :: (fmt N t sc ++ (fmtL N ts sc ++ 41 :: r)) := by simp [fmtL]
    rw [e1, ← aLs0059, par_sp, ← aLs0059, c3, d4]
    congr 1
    · simp only [fmtL, aLs0011, aLs0010, aLs0020]; omega
    · simp [rowsN]
theorem closL_mem {v : Nat} {k : Int} (h6 : k ≠ 6) : ∀ (j : Nat) (l : List Ty), closL v k j l = true → ∀ t ∈ l, clos v t = true
  | _, [], _, _, h => by cases h
  | j, t :: l, hc, u, hu => by
    have b6 : (k == 6) = false := by simpa using h6
    simp only [closL, aLs0002] at hc
    rcases aLs0006.1 hu with rfl | hu
    · simpa [bnd, b6] using hc.1
    · exact closL_mem h6 (j + 1) l hc.2 u hu
theorem back {N : List (List UInt8)} (hN : N.length ≤ 200) : ∀ (f : Nat) (t : Ty) (sc : List (List UInt8)), f ≤ 200 → size t ≤ f → Sc N N sc → sc.length + depth t ≤ 30 → valid t = true → clos sc.length t = true → (∀ w ∈ noms t, w ∈ N) → Back N t sc
  | 0, t, _, _, hs, _, _, _, _, _ => by
    have := size_pos t
    omega
  | f + 1, .mk k n i ts, sc, hf, hs, hS, hd, hv, hc, hn => by
    intro r p o cs st hr hst
    simp only [size] at hs
    simp only [depth] at hd hst
    simp only [valid, aLs0002] at hv
    have nk : k = 2 → n ∈ N := fun e => hn n (by simp [noms, e])
    cases ha : isAt k ts with
    | true =>
      obtain ⟨w1, w2, w3, w4⟩ := word_back hS hv.1 ha hc nk p
      rw [fmt_atom ha]
      refine ⟨.mk 1 (atomW k n i sc) [] p, 1, ⟨by rw [conv_word]; exact w1, (NdT.word (aLs0116 w4 (by decide))).mono (by have := size_pos (.mk k n i ts); omega) (aLs0005 _)⟩, ?_, fun F => ?_⟩
      · exact aLs0072.2 w3
      · rw [par_word w2 w3 w4 hr]
        rfl
    | false =>
      rw [fmt_node hv.1 ha]
      have ih : ∀ (sc' : List (List UInt8)), Sc N N sc' → sc'.length + depthL ts ≤ 30 → ∀ t ∈ ts, clos sc'.length t = true → Back N t sc' := by
        intro sc' hS' hd' t ht hc'
        have a1 := size_mem ht
        have a2 := depth_mem ht
        exact back hN f t sc' (by omega) (by omega) hS' (by omega) (validL_mem hv.2 ht) hc' (fun w hw => hn w (by simp only [noms, aLs0016]; exact .inr (noms_mem ht hw)))
      by_cases h6 : k = 6
      · subst h6
        rcases root_cases hv.1 with h' | h' | h' | h' | h' | h' | ⟨_, rfl, rfl, b, body, rfl⟩ <;> try omega
        have id1 := fresh_name (used := N ++ sc)
        have ni1 : fresh (N ++ sc) ∉ N ++ sc := fresh_notin (by simp; omega)
        obtain ⟨fr, hfr⟩ : ∃ fr, fresh (N ++ sc) = fr := ⟨_, rfl⟩
        rw [hfr] at id1 ni1
        have hb0 : clos 0 b = true := by
          have h1 := hv.1
          simp [root, shape, first0] at h1
          exact h1
        have hb1 : clos (sc ++ [fr]).length body = true := by
          have h1 := hc
          simp [clos, closL, bnd] at h1
          simpa using h1.2
        simp only [depthL] at hd hst
        obtain ⟨nb, g1, ⟨b1, b0⟩, b2, b3⟩ := ih [] Sc.nil (by simp [depthL]; omega) b (by simp) hb0 (32 :: (fmt N body (sc ++ [fr]) ++ 41 :: r)) (p + 1 + 6 + 1 + fr.length + 1) p [nodeR 1 [101, 120, 105, 115, 116, 115] [] (p + 1), nodeR 1 fr [] (p + 1 + 6 + 1)] ((o, cs) :: st) (.inl rfl) (by simp; omega)
        obtain ⟨nc, g2, ⟨d1, d0⟩, d2, d3⟩ := ih (sc ++ [fr]) (hS.push ni1 ni1 id1) (by simp [depthL]; omega) body (by simp) hb1 (41 :: r) (p + 1 + 6 + 1 + fr.length + 1 + (fmt N b []).length + 1) p [nodeR 1 [101, 120, 105, 115, 116, 115] [] (p + 1), nodeR 1 fr [] (p + 1 + 6 + 1), rowN nb] ((o, cs) :: st) (.inr rfl) (by simp; omega)
        refine ⟨.mk 3 [] [.mk 1 [101, 120, 105, 115, 116, 115] [] ((p + 1 : Nat) : Int), .mk 1 fr [] ((p + 1 + 6 + 1 : Nat) : Int), nb, nc] p, 1 + g2 + 1 + g1 + 1 + 1 + 1 + 1 + 1, ⟨?_, ?_⟩, ?_, fun F => ?_⟩
        · rw [conv_cons]
          have hnm : isNm (.mk 1 fr [] ((p + 1 + 6 + 1 : Nat) : Int)) = true := by
            simp only [isNm, Nd.kind, Nd.text, id1.1, id1.2]; rfl
          simp only [exR, hnm, aLs0004, b1, d1, aLs0101]
        · have hfl := isId_len id1.1
          have hsz : size b + (size body + 0) < 2 ^ 20 := by simp only [sizeL] at hs; omega
          refine (NdT.list (B := 1 + (1 + (4 * size b + (4 * size body + 0)))) (g := max (depth b) (max (depth body) 0)) (by simp) (NdsT.cons (NdT.word (by simp)) (NdsT.cons (NdT.word (by omega)) (NdsT.cons (b0.mono (aLs0005 _) (by omega)) (NdsT.cons (d0.mono (aLs0005 _) (by omega)) NdsT.nil (aLs0005 _)) (aLs0005 _)) (aLs0005 _)) (aLs0005 _)) (by omega)).mono (by simp only [size, sizeL]; omega) (by simp only [depth, depthL]; omega)
        · simp only [hdX, tlX, hfr, aLs0101, aLs0004, aLs0010, aLs0011, aLs0020]
          have := aLs0072.2 (isId_ne id1.1)
          omega
        · have e1 : 40 :: (hdX 6 [] ++ (32 :: (fr ++ 32 :: (fmt N b [] ++ 32 :: (fmt N body (sc ++ [fr]) ++ [41]))))) ++ r = 40 :: ([101, 120, 105, 115, 116, 115] ++ 32 :: (fr ++ 32 :: (fmt N b [] ++ 32 :: (fmt N body (sc ++ [fr]) ++ 41 :: r)))) := by simp [hdX]
          simp only [tlX, hfr, aLs0101, aLs0004]
          rw [e1]
          simp only [← aLs0059]
          rw [par_open (by simp; omega), par_word (w := [101, 120, 105, 115, 116, 115]) (by decide) (by decide) (by decide) Dl.c32, par_sp, par_word (isId_wB id1.1) (isId_ne id1.1) (isId_len id1.1) Dl.c32, par_sp]
          have e2 : ([101, 120, 105, 115, 116, 115] : List UInt8).length = 6 := rfl
          simp only [aLs0041, aLs0037]
          rw [e2, b3, par_sp]
          simp only [aLs0041, aLs0037]
          rw [d3, par_close]
          congr 1
          simp only [hdX, aLs0101, aLs0004, aLs0010, aLs0011, aLs0020]
          omega
      · have b6 : (k == 6) = false := by simpa using h6
        have k5 : (k == 5) = false := by
          unfold isAt at ha
          simp only [aLs0094] at ha
          exact ha.2.2.1
        have hcl : ∀ t ∈ ts, clos sc.length t = true := by
          simp only [clos, k5, aLs0063, aLs0009] at hc
          exact closL_mem h6 0 ts hc
        have head : (hdX k n).all wB = true ∧ hdX k n ≠ [] ∧ (hdX k n).length ≤ 24 ∧ ∀ (nds : List Nd) (q : Nat), nds.length = ts.length → convL nds sc = .inr ts → conv (.mk 3 [] (.mk 1 (hdX k n) [] (q : Int) :: nds) p) sc = .inr (.mk k n i ts) := by
          rcases root_cases hv.1 with ⟨rfl, _⟩ | ⟨rfl, _⟩ | ⟨rfl, rfl, h1, h2⟩ | ⟨rfl, rfl, rfl⟩ | ⟨rfl, rfl, rfl, _⟩ | ⟨rfl, _⟩ | ⟨rfl, _⟩
          · simp [isAt] at ha
          · simp [isAt] at ha
          · have e : hdX 2 n = n := rfl
            rw [e]
            obtain ⟨_, _, r3, r4, r5⟩ := notres h2
            refine ⟨isId_wB h1, isId_ne h1, isId_len h1, fun nds q hl hcv => ?_⟩
            have h0 : (nds.length == 0) = false := by
              simp only [isAt] at ha
              rw [hl]
              simpa using ha
            have hnm : isNm (.mk 1 n [] (q : Int)) = true := by
              simp only [isNm, Nd.kind, Nd.text, h1, h2]; rfl
            rw [conv_cons, r3, r4, r5, h0, hnm, hcv]
            rfl
          · refine ⟨rfl, by decide, by decide, fun nds q hl hcv => ?_⟩
            rw [conv_cons, hcv]
            rfl
          · refine ⟨rfl, by decide, by decide, fun nds q hl hcv => ?_⟩
            have h2 : 2 ≤ nds.length := by
              have h1 := hv.1
              simp [root, shape] at h1
              omega
            rw [conv_cons, hcv, aLs0033 h2]
            rfl
          · simp [isAt] at ha
          · omega
        obtain ⟨w1, w2, w3, w4⟩ := head
        obtain ⟨nds, g, ⟨d1, d0⟩, d2, d3, d4⟩ := back_list ts (fun t ht => ih sc hS (by omega) t ht (hcl t ht)) r (p + 1 + (hdX k n).length) p [nodeR 1 (hdX k n) [] (p + 1)] ((o, cs) :: st) (by simp; omega)
        refine ⟨.mk 3 [] (.mk 1 (hdX k n) [] ((p + 1 : Nat) : Int) :: nds) p, 1 + g + 1 + 1, ⟨w4 nds _ d2 d1, ?_⟩, ?_, fun F => ?_⟩
        · exact (NdT.list (B := 1 + 4 * sizeL ts) (g := depthL ts) (by simp) (NdsT.cons (NdT.word (aLs0116 w3 (by decide))) d0 (aLs0005 _)) (by omega)).mono (by simp only [size]; omega) (by simp only [depth]; omega)
        · simp only [tlX, b6, aLs0009, aLs0010, aLs0011, aLs0020]
          have := aLs0072.2 w2
          omega
        · have e1 : 40 :: (hdX k n ++ (fmtL N ts sc ++ [41])) ++ r = 40 :: (hdX k n ++ (fmtL N ts sc ++ 41 :: r)) := by simp
          simp only [tlX, b6, aLs0009]
          rw [e1]
          simp only [← aLs0059]
          rw [par_open (by simp; omega), par_word w1 w2 w3 (by cases ts <;> simp [fmtL, Dl])]
          simp only [aLs0041]
          rw [d4, par_close]
          congr 1
          simp only [aLs0010, aLs0011, aLs0020]
          omega
theorem text_back {t : Ty} (hv : verdict t = 0) (hc : clos 0 t = true) : ∃ nd, conv nd [] = .inr t ∧ NdT 800 12 nd ∧ parP (textT t) = some [rowN nd] := by
  obtain ⟨a1, a2, a3⟩ := verdict_zero hv
  have l1 := noms_le t
  have hl := fmt_len (N := noms t) t a3 [] (fun w h => by cases h)
  have e : textT t = fmt (noms t) t [] := by unfold textT; rw [hv]; rfl
  rw [e]
  obtain ⟨nd, g, ⟨b1, b0⟩, b2, b3⟩ := back (N := noms t) (by omega) (size t) t [] a1 (aLs0005 _) Sc.nil (by simp; omega) a3 hc (fun _ h => h) [] 0 0 [] [] aLs0000 (by simp; omega)
  refine ⟨nd, b1, b0.mono (by omega) (by omega), ?_⟩
  unfold parP
  rw [aLs0099 (by omega)]
  simp only [aLs0004]
  have h3 := b3 ((fmt (noms t) t []).length + 1 - g)
  rw [aLs0056, Nat.sub_add_cancel (by omega)] at h3
  rw [h3]
  obtain ⟨F, hF⟩ : ∃ F, (fmt (noms t) t []).length + 1 - g = F + 1 := ⟨(fmt (noms t) t []).length - g, by omega⟩
  rw [hF]
  rfl
section
variable {R : Nat → Option (List PV)}
theorem textT_bad {t : Ty} (h : verdict t ≠ 0) : textT t = [] := by
  unfold textT
  have : (verdict t == 0) = false := by simpa using h
  rw [this]
  rfl
theorem parse_call (w : List UInt8) {rows : List (List PV)} (h : parP w = some rows) (L : Lim) (s : Sto) : CallE (env R) L 39 [SS w] s (.tuple [.pv (.list rows), FA 0 0]) s :=
  CallE.of_told Tryz.func39 (by kernel_rfl) (T := parPT) (by kernel_rfl) (by simp only [parPT, h])
theorem parseTerm_spec {t : Ty} (hc : clos 0 t = true) : PureC (env R) 13 [SS (textT t)] fun r => ∃ y f o t', r = .tuple [y, FA f o] ∧ TRep t' y ∧ (verdict t = 0 → f = 0 ∧ t' = t) := by
  suffices H : ∀ Post : AV → Prop, (∀ y f o t', TRep t' y → (verdict t = 0 → f = 0 ∧ t' = t) → Post (.tuple [y, FA f o])) → P13_0 R 0 0 0 (SS (textT t)) ⟨[], []⟩ (QP Post) from
    e13 (u0 := SS (textT t)) (by simp) (H _ fun y f o t' h1 h2 => ⟨y, f, o, t', rfl, h1, h2⟩)
  intro Post hP
  refine p13_0 ?_
  simp only [wNew, aLs0041, aLs0020, aLs0010, aLs0037]
  by_cases hv : verdict t = 0
  · obtain ⟨nd, c1, ⟨n1, n2, n3, n4⟩, hp⟩ := text_back hv hc
    refine ⟨_, _, parse_call _ hp _ _, ?_⟩
    simp
    refine p13_1 ?_
    refine wIdx_rows (.list _) (row := rowN nd) (by omega) (by simp) (rowN_len nd) (by omega) ?_
    have hld : ∀ (s : Sto) (K : AV → Prop), K (.agg ((rowN nd).map AV.pv)) → wLd (env R) s (some 4) (.eptr (rowN nd) 0) K := by
      intro s K h
      simp only [wLd, wPart, aLs0062, rowN_len, aLs0040, xL, xM, xF, xG]
      refine ⟨by omega, ?_⟩
      rw [aLs0019 (by simp [rowN_len])]
      exact h
    refine hld _ _ ?_
    refine wCall_pure (fromNode_spec (n := nd) (by omega) n2 n1 (vars := []) (v := .capped []) (by simpa [strRows] using RowsA.capped []) (by simp; omega) (NRep.of_row nd)) ?_
    rintro v ⟨y, rfl, hy⟩
    have ef : fromR nd [] = (t, 0, 0) := by
      unfold fromR
      rw [c1]
      simp [hv]
    rw [ef] at hy ⊢
    simp only at hy ⊢
    obtain ⟨k, n, i, ts⟩ := t
    have hy' := hy
    obtain ⟨a, rfl, ha⟩ := hy
    simp [QP, QI, ha.ok, ha.noBlk, ha.close]
    exact hP _ 0 0 _ hy' fun _ => ⟨rfl, rfl⟩
  · rw [textT_bad hv]
    refine ⟨_, _, parse_call [] (rows := []) rfl _ _, ?_⟩
    simp [QP, QI]
    exact hP _ 2 0 (.mk 0 [] 0 []) ⟨_, rfl, by simp [rowsT]; exact .inr rfl⟩ fun h => absurd h hv
end
section
variable {R : Nat → Option (List PV)}
theorem val3 {t : Ty} (h : size t < 2 ^ 60) (ho : okT t) {x : AV} (hx : TRepO t x) : PureC (env R) 14 [x] fun r => r = I64 (verdict t) := by
  obtain ⟨x', h1, h2, h3⟩ := hx.closed
  exact PureC.of_closed (by kernel_rfl) (by kernel_rfl) (args' := [x']) (by simp [h1]) (by simp [h3]) (rvalidate_spec h ho h2)
theorem eq3 {t t' : Ty} (h : size t < 2 ^ 38) {x x' : AV} (hx : TRep t x) (hx' : TRepO t' x') : PureC (env R) 15 [x, x'] fun r => ∃ b : Bool, r = BB b ∧ (b = true ↔ t = t') := by
  obtain ⟨y', h1', h2', h3'⟩ := hx'.closed
  have h1 : close [] 0 0 x = some x := by
    obtain ⟨k, n, i, ts⟩ := t
    obtain ⟨a, rfl, ha⟩ := hx
    simp [ha.close]
  exact PureC.of_closed (by kernel_rfl) (by kernel_rfl) (args' := [x, y']) (by simp [h1, h1']) (by simp [h1, h3']) (tyEqual_spec h hx h2')
set_option maxRecDepth 20000 in
theorem law3_spec (hcheck : PureC (env R) 11 [] fun v => v = BB true) {W X : List (List UInt8)} (hW : (env R).G 4 = some (strRow W)) (hG : (env R).G 5 = some (strRow X)) (sW : Short W) (h4 : W.length = 4) (sX : ∀ w ∈ X, w.length < 2 ^ 50) (hX4 : 4 ≤ X.length) (d l : List Int) (hd : d.length < 2 ^ 50) (hl : l.length < 2 ^ 50) :
    PureC (env R) 3 [.pv (.list (intRows d)), .pv (.list (intRows l))] fun v => v = BB true := by
  refine e3 (u0 := .pv (.list (intRows d))) (u1 := .pv (.list (intRows l))) (by simp) (p3_0 ?_)
  have hSl := Src.of_length l
  have hB : Base [StB (.of l) 0] 0 (.of l) := ⟨by simp, by simp [StB_ids], by rw [Src.of_length]; omega⟩
  have hST : ∀ k, Tel.ST [StB (.of l) 0] 0 (.of l) k = [StB (.of l) k] := fun k => by simp [Tel.ST]
  have h0 : LocB [StB (.of l) 0] [] := fun b hb => by cases hb
  refine wCall_do (new_spec l _ _) ?_
  rintro v s1 ⟨rfl, rfl⟩
  have e0 : (⟨[] ++ [StB (.of l) 0], []⟩ : Sto) = ⟨Tel.ST [StB (.of l) 0] 0 (.of l) 0 ++ [], []⟩ := by simp [hST]
  show wCall (env R) _ _ _ ⟨[] ++ [StB (.of l) 0], []⟩ _
  rw [e0]
  refine wCall_pure (decls_spec hW h4 sW hG sX hX4 d hd) ?_
  rintro dv ⟨rows, hD⟩
  refine wCall_do (termTop_spec hB hW h4 sW hD h0 (k := 0) (by omega) (LFE (env R) 3 0 0 0) (by simp [LFE]) [] (by simp [LFE])) ?_
  rintro x s1 ⟨t, k1, x1, hx, ⟨ht, hcl⟩, _, hk1, rfl⟩
  have s60 : size t < 2 ^ 60 := by have := ht.2.2; rw [Src.of_length] at hk1; omega
  have s38 : verdict t = 0 → size t < 2 ^ 38 := fun h => aLs0116 (verdict_zero h).1 (by decide)
  simp only [hST, aLs0056, aLs0041, wNew, aLs0010, aLs0020, aLs0037]
  have A1 := fmtO (R := R) s60 ht.1 ht.2.1 hx
  have A2 := rfmtO (R := R) s60 ht.1 ht.2.1 hx
  have V1 := val3 (R := R) s60 ht.1 hx
  have P1 := parseTerm_spec (R := R) hcl
  have E1 := fun t' y (hy : TRep t' y) => (fun (b : size t' < 2 ^ 38) => eq3 (R := R) b hy hx)
  have hx1 := hx.self
  generalize textT t = T at A1 A2 P1
  generalize verdict t = v1 at V1 P1 s38
  generalize StB (.of l) k1 = Q
  obtain ⟨c, n, i, es⟩ := t
  obtain ⟨a, rfl, ha⟩ := hx
  have q1 : (I64 c :: SS n :: I64 i :: [a]).all okCell = true := by simp [ha.ok]
  generalize hX' : [I64 c, SS n, I64 i, a] = X1 at *
  have hX1l : X1.length = 4 := by rw [← hX']; rfl
  have sX1 : setCells [I64 0, SS [], I64 0, .capped []] 0 X1 = X1 := by rw [← hX']; rfl
  have z1 : ∀ (ts : List (Nat × Nat)) (K : Sto → Prop), K ⟨[Q, X1], ts⟩ → wSt (LFE (env R) 3 0 0 0) ⟨[Q, [I64 0, SS [], I64 0, .capped []]], ts⟩ 4 (.ptr 1 0) (.agg X1) K := by
    intro ts K hK
    have hce : cellsOf (.agg X1) = X1 := rfl
    simp only [wSt, aLs0027, aLs0017, wO, hce]
    refine ⟨⟨hX1l, by simp; omega, by simp [LFE], q1, .inl (by simp [LFE]), by omega⟩, ?_⟩
    rw [sX1]
    exact hK
  have l1 : ∀ (r : List (List AV)) (ts : List (Nat × Nat)) (K : AV → Prop), K (.agg X1) → wLd (env R) ⟨Q :: X1 :: r, ts⟩ (some 4) (.ptr 1 0) K := by
    intro r ts K hK
    simp only [wLd, aLs0027, aLs0017, wO, wPart, aLs0040, xL, xM, xF, xG]
    refine ⟨by omega, ?_⟩
    rw [aLs0019 (by omega)]
    exact hK
  have sn : ∀ (u : List UInt8) (K : AV → Prop), K (BB false) → wStr .neq (SS u) (SS u) K := by
    intro u K hK
    simp
    exact hK
  refine z1 _ _ (l1 _ _ _ (wCall_pure A1 ?_))
  rintro _ rfl
  refine wCall_pure hcheck ?_
  rintro _ rfl
  simp only [wNot, aLs0108]
  refine gk_t (gk_t (l1 _ _ _ (gk_t (wCall_pure A2 ?_))))
  rintro _ rfl
  refine gk_t (sn _ _ (pk (co_f (p3_1 ?_))))
  refine wCall_pure P1 ?_
  rintro _ ⟨y, f, o, t', rfl, hy, hf⟩
  have hy0 := hy
  obtain ⟨c2, n2, i2, es2⟩ := t'
  obtain ⟨b, rfl, hb⟩ := hy
  have q2 : (I64 c2 :: SS n2 :: I64 i2 :: [b]).all okCell = true := by simp [hb.ok]
  generalize hY : [I64 c2, SS n2, I64 i2, b] = Y at *
  have hYl : Y.length = 4 := by rw [← hY]; rfl
  have sY : setCells [I64 0, SS [], I64 0, .capped []] 0 Y = Y := by rw [← hY]; rfl
  have z2 : ∀ (r : List (List AV)) (ts : List (Nat × Nat)) (K : Sto → Prop), K ⟨Q :: X1 :: Y :: r, ts⟩ → wSt (LFE (env R) 3 0 0 0) ⟨Q :: X1 :: [I64 0, SS [], I64 0, .capped []] :: r, ts⟩ 4 (.ptr 2 0) (.agg Y) K := by
    intro r ts K hK
    have hce : cellsOf (.agg Y) = Y := rfl
    simp only [wSt, aLs0027, aLs0017, wO, hce]
    refine ⟨⟨hYl, by simp; omega, by simp [LFE], q2, .inl (by simp [LFE]), by omega⟩, ?_⟩
    rw [sY]
    exact hK
  have l2 : ∀ (r : List (List AV)) (ts : List (Nat × Nat)) (K : AV → Prop), K (.agg Y) → wLd (env R) ⟨Q :: X1 :: Y :: r, ts⟩ (some 4) (.ptr 2 0) K := by
    intro r ts K hK
    simp only [wLd, aLs0027, aLs0017, wO, wPart, aLs0040, xL, xM, xF, xG]
    refine ⟨by omega, ?_⟩
    rw [aLs0019 (by omega)]
    exact hK
  have z3 : ∀ (ts : List (Nat × Nat)) (K : Sto → Prop), K ⟨[Q, X1, Y, [I64 f, I64 o]], ts⟩ → wSt (LFE (env R) 3 0 0 0) ⟨[Q, X1, Y, [I64 0, I64 0]], ts⟩ 2 (.ptr 3 0) (FA f o) K := by
    intro ts K hK
    simp
    exact hK
  simp only [wExt, aLs0027, aLs0017, wO]
  simp only [wNew, aLs0010, aLs0020, aLs0037, aLs0041]
  refine z2 _ _ _ (z3 _ _ (l1 _ _ _ (wCall_pure V1 ?_)))
  rintro _ rfl
  refine in_neq ?_
  by_cases hv : v1 = 0
  · obtain ⟨rfl, he⟩ := hf hv
    have b0 : (v1 != 0) = false := by simp [hv]
    rw [b0]
    have l3 : ∀ (ts : List (Nat × Nat)) (K : AV → Prop), K (I64 0) → wLd (env R) ⟨[Q, X1, Y, [I64 0, I64 o]], ts⟩ none (.ptr 3 0) K := by
      intro ts K hK
      simpa [wLd, wO, wPart] using hK
    refine gk_t ⟨rfl, ?_⟩
    refine gk_t (l3 _ _ ?_)
    refine gk_t (in_eql ?_)
    refine gk_t ?_
    refine gk_t (l2 _ _ _ ?_)
    refine gk_t (l1 _ _ _ ?_)
    refine gk_t (wCall_pure (E1 _ _ hy0 (by rw [he]; exact s38 hv)) ?_)
    rintro _ ⟨bb, rfl, hbb⟩
    have : bb = true := hbb.2 he
    subst this
    exact gk_t (pk (pk ⟨_, by simp [close], rfl⟩))
  · have b0 : (v1 != 0) = true := by simp [hv]
    rw [b0]
    refine gk_f (by decide) (gk_f (by decide) (gk_f (by decide) (gk_f (by decide) ?_)))
    exact gk_u (gk_u (gk_u (gk_f (by decide) (pk ⟨_, by simp [close], rfl⟩))))
end
end Go.Proofs.YtmipbilokjkjiaaGreatDoor
