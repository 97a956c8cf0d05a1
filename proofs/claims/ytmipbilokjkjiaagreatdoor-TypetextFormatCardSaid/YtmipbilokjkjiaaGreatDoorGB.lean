/-
  Generated terms: arg, term.
-/
import Derived.Test.YtmipbilokjkjiaaGreatDoorGA
import Derived.Test.YtmipbilokjkjiaaGreatDoorFC
set_option linter.unusedSimpArgs false
set_option linter.unusedVariables false
namespace Go.Proofs.YtmipbilokjkjiaaGreatDoor
open Go.Tel
section
variable {bs : List (List AV)} {id : Nat} {l : Src} {R : Nat → Option (List PV)}
theorem arg_step (hB : Base bs id l) {W : List (List UInt8)} (hW : (env R).G 4 = some (strRow W)) (h4 : W.length = 4) (sW : Short W) {dv : AV} (μ : Nat)
    (ihn : ∀ d : Nat, d ≤ 20 → GenT R bs id l dv 48 d (3 * d + 1) μ) (iht : ∀ d : Nat, d ≤ 20 → GenT R bs id l dv 26 d (3 * d + 2) μ) (e : Int) (he : -1 ≤ e) (he2 : e ≤ 20) : GenT R bs id l dv 51 e (3 * (e + 1).toNat) (μ + 1) := by
  intro m hm k hk vars hvars hμ L hro ts hrt
  have hlen := hB.len
  have hlt := hB.lt
  suffices H : ∀ (rr : Bool) (N : Nat) (Post : AV → Sto → Prop), N = bs.length + m.length → (∀ t v k' x, TRepO t v → TyB (8 * (k' - k) + 1) t → k ≤ k' → k' ≤ l.length → Post v ⟨ST bs id l k' ++ m, ts ++ x⟩) → P51_0 R 0 L.ro L.rt (.ptr id 0) dv (I64 e) (I64 vars) ⟨ST bs id l k ++ m, ts⟩ (QM rr N Post) from
    m51 (by simp [noIdL, noId]) (H _ _ _ (by simp [ST_len]) fun t v k' x h1 h2 h3 h4 => ⟨t, k', x, h1, h2, h3, h4, rfl⟩)
  intro rr N Post hN hP
  have hm' := Z4_ids hm
  have fin : ∀ (k1 : Nat) (x : List (Nat × Nat)) (t : Ty) (v : AV), TRepO t v → TyB (8 * (k1 - k) + 1) t → k ≤ k1 → k1 ≤ l.length → wSt (LFE (env R) 51 0 L.ro L.rt) ⟨ST bs id l k1 ++ (m ++ [Z4]), ts ++ x⟩ 4 (.ptr (bs.length + m.length) 0) v fun s1 => wLd (env R) s1 (some 4) (.ptr (bs.length + m.length) 0) fun r => QM rr N Post r s1 :=
    fun k1 x t v hv hb h1 h2 => tyO_leaf (R := R) (Post := Post) (rr := rr) (N := N) (k := k1) (ts := ts ++ x) (Z := Z4) (r := []) (L' := LFE (env R) 51 0 L.ro L.rt) hB hm rfl hN hro rfl hv (fun y hy => hP t y k1 x hy hb h1 h2)
  have fin0 : ∀ (k1 : Nat) (t : Ty) (v : AV), TRepO t v → TyB (8 * (k1 - k) + 1) t → k ≤ k1 → k1 ≤ l.length → wSt (LFE (env R) 51 0 L.ro L.rt) ⟨ST bs id l k1 ++ (m ++ [Z4]), ts⟩ 4 (.ptr (bs.length + m.length) 0) v fun s1 => wLd (env R) s1 (some 4) (.ptr (bs.length + m.length) 0) fun r => QM rr N Post r s1 := by
    intro k1 t v hv hb h1 h2
    have := fin k1 [] t v hv hb h1 h2
    simpa using this
  refine p51_0 ?_
  simp only [wNew, List.append_assoc, List.length_append, ST_len]
  refine wCall_do (next_spec (n := 6) hB hm' hk (by omega) (by omega) _ (by simpa [LFE] using hro) ts) ?_
  rintro v s1 ⟨r, k1, rfl, hr1, hr2, hk1, hk2, rfl⟩
  have mu1 : (l.length - k1) * 100 ≤ (l.length - k) * 100 := Nat.mul_le_mul_right _ (by omega)
  have rest : wInt .i64 .leq (I64 e) (I64 0) fun a25 =>
 wCond a25 (
 wLd (env R) ⟨ST bs id l k1 ++ (m ++ [Z4]), ts⟩ none (.gptr 4 0) fun a26 =>
 wCall (env R) (LFE (env R) 51 0 L.ro L.rt) (.func (.func 44) [] []) [(.ptr id 0), (I64 4)] ⟨ST bs id l k1 ++ (m ++ [Z4]), ts⟩ fun a28 s1x8 =>
 wIdx s1x8 1 a26 a28 fun a29 =>
 wLd (env R) s1x8 none a29 fun a30 =>
 wCall (env R) (LFE (env R) 51 0 L.ro L.rt) (.func (.func 36) [] []) [a30, (.capped [])] s1x8 fun a31 s1x9 =>
 wSt (LFE (env R) 51 0 L.ro L.rt) s1x9 4 (.ptr (bs.length + m.length) 0) a31 fun s1x10 =>
(wLd (env R) s1x8 none (.gptr 4 0) fun v => eqA v a26 = true) ∧
 wLd (env R) s1x10 (some 4) (.ptr (bs.length + m.length) 0) fun rx11 =>
 QM rr N Post rx11 s1x10) (
 wInt .i64 .lss (I64 r) (I64 4) fun a34 =>
 wCond a34 (
 wCall (env R) (LFE (env R) 51 0 L.ro L.rt) (.func (.func 48) [] []) [(.ptr id 0), dv, (I64 e), (I64 vars)] ⟨ST bs id l k1 ++ (m ++ [Z4]), ts⟩ fun a39 s1x12 =>
 wSt (LFE (env R) 51 0 L.ro L.rt) s1x12 4 (.ptr (bs.length + m.length) 0) a39 fun s1x13 =>
 wLd (env R) s1x13 (some 4) (.ptr (bs.length + m.length) 0) fun rx14 =>
 QM rr N Post rx14 s1x13) (
 P51_1 R 0 L.ro L.rt (.ptr id 0) dv (I64 e) (.ptr (bs.length + m.length) 0) ⟨ST bs id l k1 ++ (m ++ [Z4]), ts⟩ (QM rr N Post))) := by
    refine in_leq ?_
    by_cases h0 : e ≤ 0
    · have b0 : decide (e ≤ 0) = true := by simpa using h0
      rw [b0]
      refine co_t (ld_glob hW ?_)
      refine wCall_do (next_spec (n := 4) hB hm' hk2 (by omega) (by omega) _ (by simpa [LFE] using hro) ts) ?_
      rintro v s1 ⟨r2, k2, rfl, hr3, hr4, hk3, hk4, rfl⟩
      obtain ⟨w, hw, hwl⟩ := leaf_name hW h4 sW hr3 hr4
      refine idx_str hr3 hw (ld_str ?_)
      refine wCall_pure (namedA_spec (.capped [])) ?_
      rintro v rfl
      exact wSt_and (ld_glob hW (eqA_strRows W)) (fin0 k2 (.mk 2 w 0 []) _ ⟨_, rfl, by simp [rowsT]; exact .inl (.capped _)⟩ (TyB.leaf hwl (by omega) (by omega)) (by omega) hk4)
    · have b0 : decide (e ≤ 0) = false := by simpa using h0
      rw [b0]
      obtain ⟨d, rfl⟩ := Int.eq_ofNat_of_zero_le (show 0 ≤ e by omega)
      refine co_f (in_lss ?_)
      cases b4 : decide (r < 4) with
      | true =>
        refine co_t ?_
        refine wCall_do (ihn d (by omega) hm' hk2 vars (by omega) (by omega) (LFE (env R) 51 0 L.ro L.rt) hro ts (by simpa [LFE] using hrt)) ?_
        rintro v s1 ⟨t, k3, x, hv, hb, hk3, hk4, rfl⟩
        exact fin k3 x t v hv (hb.mono (by omega)) (by omega) hk4
      | false =>
        refine co_f (p51_1 (in_sub (by omega) (by omega) ?_))
        have e3 : ((d : Nat) : Int) - 1 = ((d - 1 : Nat) : Int) := by omega
        rw [e3]
        refine wCall_do (iht (d - 1) (by omega) hm' hk2 0 (by omega) (by omega) (LFE (env R) 51 0 L.ro L.rt) hro ts (by simpa [LFE] using hrt)) ?_
        rintro v s1 ⟨t, k3, x, hv, hb, hk3, hk4, rfl⟩
        exact fin k3 x t v hv (hb.mono (by omega)) (by omega) hk4
  refine in_lss ?_
  cases b2 : decide (r < 2) with
  | false => exact gk_f (by simp) (gk_f (by simp) (pk (co_f rest)))
  | true =>
    refine gk_t (gk_t (in_gtr (pk ?_)))
    by_cases hv0 : vars = 0
    · have b0 : decide ((vars : Int) > 0) = false := by simp; omega
      rw [b0]
      exact co_f rest
    · have b0 : decide ((vars : Int) > 0) = true := by simp; omega
      rw [b0]
      refine co_t ?_
      refine wCall_do (next_spec (n := vars) hB hm' hk2 (by omega) (by omega) _ (by simpa [LFE] using hro) ts) ?_
      rintro v s1 ⟨r2, k2, rfl, hr3, hr4, hk3, hk4, rfl⟩
      refine wCall_pure (var_spec r2) ?_
      rintro v rfl
      exact fin0 k2 (.mk 5 [] r2 []) _ ⟨_, rfl, by simp [rowsT]; exact .inl (.capped _)⟩ (TyB.leaf (by simp) (by omega) (by omega)) (by omega) hk4
end
end Go.Proofs.YtmipbilokjkjiaaGreatDoor
/-
  Generated terms: term.
-/
namespace Go.Proofs.YtmipbilokjkjiaaGreatDoor
open Go.Tel
attribute [local simp] wNew wBox wBoxZ markT wCond wBuild fillS wO setCells wSt wLd wPart LFE wFad alive wInt wStr wGK wGd wPick wExt wLen wSlen wNot wNil okI ceI okB ceB okS ceS okL ceL okC ceC okO ceO okP ceP okG ceG okE ceE okR ceR okF ceF okX ceX okM ceM okN ceN okNf ceNf okNi ceNi ceA roL roC roO leL leC leO tpP tpC tpO clP clC clO clF clA clT clN clL nbP nbC nbO nbN nbL toPVs
theorem TyB.pair {B C D : Nat} {k : Int} {t u : Ty} (h5 : k ≠ 5) (h : TyB B t) (h' : TyB C u) (hl : B + C + 1 ≤ D) : TyB D (.mk k [] 0 [t, u]) :=
  (TyB.node (B := B + C) (by simp) (by omega) (TysB.cons h (TysB.cons h' TysB.nil (C := 0) (Nat.le_refl _)) (Nat.le_refl _))).mono hl
section
variable {bs : List (List AV)} {id : Nat} {l : Src} {R : Nat → Option (List PV)}
theorem TRepO.self {t : Ty} {v : AV} (h : TRepO t v) : eqA v v = true := by
  obtain ⟨k, n, i, ts⟩ := t
  obtain ⟨a, rfl, ha⟩ := h
  simp [eqA, eqAL, eqP, eqV_int, eqV_str, eqA_self ha]
theorem existsO_spec {t u : Ty} {x y : AV} (h : TRepO t x) (h' : TRepO u y) : PureC (env R) 32 [x, y] fun r => TRepO (.mk 6 [] 0 [t, u]) r := by
  obtain ⟨k, n, i, ts⟩ := t
  obtain ⟨k', n', i', ts'⟩ := u
  obtain ⟨a, rfl, ha⟩ := h
  obtain ⟨a', rfl, ha'⟩ := h'
  obtain ⟨v, hv, hc⟩ := exists_rspec (R := R) (k1 := k) (i1 := i) (k2 := k') (i2 := i') (n1 := n) (n2 := n') ha ha'
  exact ⟨v, ⟨_, hv, by simp [rowsT, rowT]; exact .inl (.capped _)⟩, hc⟩
theorem two_rows {t u : Ty} {x y : AV} (h : TRepO t x) (h' : TRepO u y) (s : Sto) (K : AV → Sto → Prop) (hK : K (.capped (rowsT [t, u])) s) : wBsl false s 4 [(I64 0), (SS []), (I64 0), (.capped [])] 2 [(0, 4, x), (4, 4, y)] K := by
  obtain ⟨k, n, i, ts⟩ := t
  obtain ⟨k', n', i', ts'⟩ := u
  obtain ⟨a, rfl, ha⟩ := h
  obtain ⟨a', rfl, ha'⟩ := h'
  simp [wBsl, repl, rowsBy, ha.ok, ha.toPV, ha'.ok, ha'.toPV]
  simpa [rowsT, rowT] using hK
theorem term_step (hB : Base bs id l) {W : List (List UInt8)} (hW : (env R).G 4 = some (strRow W)) (h4 : W.length = 4) (sW : Short W) {dv : AV} (μ : Nat)
    (ihn : ∀ d : Nat, d ≤ 20 → GenT R bs id l dv 48 d (3 * d + 1) μ) (iht : ∀ d : Nat, d ≤ 20 → GenT R bs id l dv 26 d (3 * d + 2) μ) (d : Nat) (hd : d ≤ 20) : GenT R bs id l dv 26 d (3 * d + 2) (μ + 1) := by
  intro m hm k hk vars hvars hμ L hro ts hrt
  have hlen := hB.len
  have hlt := hB.lt
  suffices H : ∀ (rr : Bool) (N : Nat) (Post : AV → Sto → Prop), N = bs.length + m.length → (∀ t v k' x, TRepO t v → TyB (8 * (k' - k) + 1) t → k ≤ k' → k' ≤ l.length → Post v ⟨ST bs id l k' ++ m, ts ++ x⟩) → P26_0 R 0 L.ro L.rt (.ptr id 0) dv (I64 d) (I64 vars) ⟨ST bs id l k ++ m, ts⟩ (QM rr N Post) from
    m26 (by simp [noIdL, noId]) (H _ _ _ (by simp [ST_len]) fun t v k' x h1 h2 h3 h4 => ⟨t, k', x, h1, h2, h3, h4, rfl⟩)
  intro rr N Post hN hP
  have hm' := Z4_ids hm
  have g1 : ∀ n, L.ro ≤ bs.length + m.length + n := fun n => by omega
  have fin : ∀ (k1 : Nat) (x : List (Nat × Nat)) (r : List (List AV)) (t : Ty) (v : AV), TRepO t v → TyB (8 * (k1 - k) + 1) t → k ≤ k1 → k1 ≤ l.length → wSt (LFE (env R) 26 0 L.ro L.rt) ⟨ST bs id l k1 ++ (m ++ Z4 :: r), ts ++ x⟩ 4 (.ptr (bs.length + m.length) 0) v fun s1 => wLd (env R) s1 (some 4) (.ptr (bs.length + m.length) 0) fun r => QM rr N Post r s1 :=
    fun k1 x r t v hv hb h1 h2 => tyO_leaf (R := R) (Post := Post) (rr := rr) (N := N) (k := k1) (ts := ts ++ x) (Z := Z4) (r := r) (L' := LFE (env R) 26 0 L.ro L.rt) hB hm rfl hN hro rfl hv (fun y hy => hP t y k1 x hy hb h1 h2)
  have fin0 : ∀ (k1 : Nat) (r : List (List AV)) (t : Ty) (v : AV), TRepO t v → TyB (8 * (k1 - k) + 1) t → k ≤ k1 → k1 ≤ l.length → wSt (LFE (env R) 26 0 L.ro L.rt) ⟨ST bs id l k1 ++ (m ++ Z4 :: r), ts⟩ 4 (.ptr (bs.length + m.length) 0) v fun s1 => wLd (env R) s1 (some 4) (.ptr (bs.length + m.length) 0) fun r => QM rr N Post r s1 := by
    intro k1 r t v hv hb h1 h2
    have := fin k1 [] r t v hv hb h1 h2
    simpa using this
  have rt' : ∀ x : List (Nat × Nat), (LFE (env R) 26 0 L.ro L.rt).rt ≤ (ts ++ x).length := fun x => by simp [LFE]; omega
  have mu : ∀ k1, k ≤ k1 → (l.length - k1) * 100 ≤ (l.length - k) * 100 := fun k1 h => Nat.mul_le_mul_right _ (by omega)
  have mus : ∀ k1, k < k1 → k1 ≤ l.length → (l.length - k1) * 100 + 100 ≤ (l.length - k) * 100 := fun k1 h h' => by
    have : (l.length - k1 + 1) * 100 ≤ (l.length - k) * 100 := Nat.mul_le_mul_right _ (by omega)
    omega
  have nominal : ∀ k1, k ≤ k1 → k1 ≤ l.length → wCall (env R) (LFE (env R) 26 0 L.ro L.rt) (.func (.func 48) [] []) [(.ptr id 0), dv, (I64 d), (I64 vars)] ⟨ST bs id l k1 ++ (m ++ [Z4]), ts⟩ fun a48 s1x0 =>
      wSt (LFE (env R) 26 0 L.ro L.rt) s1x0 4 (.ptr (bs.length + m.length) 0) a48 fun s1x1 => wLd (env R) s1x1 (some 4) (.ptr (bs.length + m.length) 0) fun r => QM rr N Post r s1x1 := by
    intro k1 h1 h2
    refine wCall_do (ihn d hd hm' h2 vars hvars (by have := mu k1 h1; omega) (LFE (env R) 26 0 L.ro L.rt) hro ts (by simpa [LFE] using hrt)) ?_
    rintro v s1 ⟨t, k3, x, hv, hb, hk3, hk4, rfl⟩
    exact fin k3 x [] t v hv (hb.mono (by omega)) (by omega) hk4
  have last : ∀ k1, k < k1 → k1 ≤ l.length → P26_10 R 0 L.ro L.rt (.ptr id 0) (.ptr (bs.length + m.length) 0) ⟨ST bs id l k1 ++ (m ++ [Z4]), ts⟩ (QM rr N Post) := by
    intro k1 h1 h2
    refine p26_10 ?_
    refine wCall_do (next_spec (n := 4) hB hm' h2 (by omega) (by omega) _ (by simpa [LFE] using hro) ts) ?_
    rintro v s1 ⟨r2, k2, rfl, hr3, hr4, hk3, hk4, rfl⟩
    refine in_eql ?_
    cases (r2 == 0) with
    | true =>
      refine co_t ?_
      refine wCall_pure never_spec ?_
      rintro v rfl
      exact fin0 k2 [] (.mk 1 [] 0 []) _ ⟨_, rfl, by simp [rowsT]; exact .inl (.capped _)⟩ (TyB.leaf (by simp) (by omega) (by omega)) (by omega) hk4
    | false =>
      refine co_f (p26_13 ?_)
      refine wCall_pure any_spec ?_
      rintro v rfl
      refine wCall_pure (var_spec 0) ?_
      rintro v rfl
      have hb1 : ∀ (s : Sto) (K : AV → Sto → Prop), K (.capped (rowsT [.mk 5 [] 0 []])) s → wBsl false s 4 [(I64 0), (SS []), (I64 0), (.capped [])] 1 [(0, 4, T0 5 [] 0)] K := by
        intro s K hK
        simp [wBsl, repl, rowsBy]
        simpa [rowsT, rowT] using hK
      refine hb1 _ _ ?_
      refine wCall_pure (namedA_spec (.capped _)) ?_
      rintro v rfl
      refine wCall_pure (existsO_spec (t := .mk 0 [] 0 []) (u := .mk 2 [66, 111, 120] 0 [.mk 5 [] 0 []]) ⟨_, rfl, by simp [rowsT]; exact .inl (.capped _)⟩ ⟨_, rfl, .inl (.capped _)⟩) ?_
      intro v hv
      refine fin0 k2 [] _ _ hv ?_ (by omega) hk4
      exact TyB.pair (B := 1) (C := 2) (by omega) (TyB.leaf (by simp) (by omega) (by omega)) (TyB.node (B := 1) (by simp) (by omega) (TysB.cons (B := 1) (C := 0) (TyB.leaf (by simp) (by omega) (by omega)) TysB.nil (by omega))) (by omega)
  have exis : ∀ (k1 : Nat) (x : List (Nat × Nat)) (tb : Ty) (vb : List AV), TRepO tb (.agg vb) → vb.length = 4 → (vb.all okCell) = true → (∀ n, idsLtL n vb = true) → 0 < d → k < k1 → k1 ≤ l.length → TyB (8 * (k1 - k) - 7) tb →
      P26_9 R 0 L.ro L.rt (.ptr id 0) dv (I64 d) (I64 vars) (.ptr (bs.length + m.length) 0) (.ptr (bs.length + m.length + 1) 0) ⟨ST bs id l k1 ++ (m ++ [Z4, vb]), ts ++ x⟩ (QM rr N Post) := by
    intro k1 x tb vb hrep hv4 hok hids hd0 h1 h2 hsz
    have hld : ∀ (k : Nat) (t : List (Nat × Nat)) (K : AV → Prop), K (.agg vb) → wLd (env R) ⟨ST bs id l k ++ (m ++ [Z4, vb]), t⟩ (some 4) (.ptr (bs.length + m.length + 1) 0) K := by
      intro k t K hK
      simp only [wLd, loc_get, List.getElem?_cons_succ, List.getElem?_cons_zero, wO, wPart, List.drop_zero]
      refine ⟨by omega, ?_⟩
      rw [List.take_of_length_le (by omega)]
      exact hK
    refine p26_9 (hld _ _ _ (in_sub (by omega) (by omega) (in_add (by omega) (by omega) ?_)))
    have e3 : ((d : Nat) : Int) - 1 = ((d - 1 : Nat) : Int) := by omega
    have e4 : ((vars : Nat) : Int) + 1 = ((vars + 1 : Nat) : Int) := by omega
    rw [e3, e4]
    have hm2 : LocB bs (m ++ [Z4, vb]) := locB_push hm (by
      intro b hb
      simp only [List.mem_cons, List.not_mem_nil, or_false] at hb
      rcases hb with rfl | rfl
      · simp [idsLtL, idsLt]
      · exact hids _)
    refine wCall_do (iht (d - 1) (by omega) hm2 h2 (vars + 1) (by omega) (by have := mus k1 h1 h2; omega) (LFE (env R) 26 0 L.ro L.rt) hro (ts ++ x) (rt' x)) ?_
    rintro v s1 ⟨t, k3, x3, hv, hb, hk3, hk4, rfl⟩
    refine wCall_pure (existsO_spec hrep hv) ?_
    intro w hw
    refine wSt_and (hld _ _ _ hrep.self) ?_
    rw [List.append_assoc]
    refine fin k3 (x ++ x3) [vb] _ w hw ?_ (by omega) hk4
    exact TyB.pair (by omega) hsz hb (by omega)
  have loop : ∀ (k1 cnt : Nat), 0 < d → k < k1 → k1 ≤ l.length → cnt ≤ 3 → ∀ (j q k2 : Nat) (x : List (Nat × Nat)) (a : AV) (es : List Ty), q + j = cnt → k1 ≤ k2 → k2 ≤ l.length → es.length = q → TysB (8 * (k2 - k1) + q) es → Apd ts.length (ts ++ x) 25 a (rowsT es) →
      P26_8 R 0 L.ro L.rt (.ptr id 0) dv (I64 d) (I64 vars) (.ptr (bs.length + m.length) 0) (.ptr (bs.length + m.length + 1) 0) (I64 cnt) (I64 q) ⟨ST bs id l k2 ++ (m ++ [Z4, [I64 3, SS [], I64 0, a]]), ts ++ x⟩ (QM rr N Post) := by
    intro k1 cnt hd0 hk1 hk2 hcnt j
    induction j with
    | zero =>
      intro q k2 x a es hq hk1' hk2' hes hqs ha
      have ho := ha.rowsO
      refine p26_8 (in_lss ?_)
      have h1 : ¬ ((q : Int) < cnt) := by omega
      simp only [h1, decide_false]
      refine co_f (p26_12 ?_)
      have := fin k2 x [[I64 3, SS [], I64 0, a]] (.mk 3 [] 0 es) (.agg [I64 3, SS [], I64 0, a]) ⟨a, rfl, ho⟩ ((TyB.node (by simp) (by omega) hqs).mono (by omega)) (by omega) hk2'
      simpa [wLd, wO, wPart, loc_get] using this
    | succ j ihj =>
      intro q k2 x a es hq hk1' hk2' hes hqs ha
      have ho := ha.rowsO
      refine p26_8 (in_lss ?_)
      have h1 : ((q : Int) < cnt) := by omega
      simp only [h1, decide_true]
      refine co_t (p26_11 ?_)
      have hm2 : LocB bs (m ++ [Z4, [I64 3, SS [], I64 0, a]]) := locB_push hm (by simp [idsLtL, idsLt, ho.idsLt])
      simp [loc_get, loc_get0, loc_set, loc_set0]
      refine wAri_fit (by omega) (by omega) ?_
      have e3 : ((d : Nat) : Int) - 1 = ((d - 1 : Nat) : Int) := by omega
      rw [e3]
      refine wCall_do (iht (d - 1) (by omega) hm2 hk2' vars (by omega) (by have := mu k2 (by omega); omega) (LFE (env R) 26 0 L.ro L.rt) hro (ts ++ x) (rt' x)) ?_
      rintro v s1 ⟨t, k3, x2, hv, hqn, hk4, hk5, rfl⟩
      obtain ⟨c1, n1, i1, es1⟩ := t
      obtain ⟨b, rfl, hb⟩ := hv
      simp [wBsl, repl, hb.ok, hb.toPV, loc_get, loc_get0, loc_set, loc_set0]
      have hrow : rowsBy 4 1 [PV.sc (.int .i64 c1), .sc (.string ⟨n1.toArray⟩), .sc (.int .i64 i1), .list (rowsT es1)] = [rowT (.mk c1 n1 i1 es1)] := by simp [rowsBy, rowT]
      rw [hrow]
      have ha2 : Apd ts.length (ts ++ (x ++ x2)) 25 a (rowsT es) := by
        rw [← List.append_assoc]
        exact ha.grow
      refine wApp_row ha2 hrt (fun r hr => rowsT_four r hr) (rowT_len _) (by omega) (rowT_ok _) (by simp [rowsT_len]; omega) (by simp [rowsT_len]; omega) ?_
      intro a' x' ha'
      have ho' := ha'.rowsO
      have := g1 1
      simp [loc_get, loc_get0, loc_set, loc_set0, ho'.ok, ho'.cells, ho'.noBlk, this]
      refine ⟨by simp [eqA], ?_, ?_⟩
      · simpa [ApdT.eqA] using ApdT.eqA ha
      refine p26_14 (in_add (by omega) (by omega) ?_)
      have ha3 : Apd ts.length (ts ++ x') 25 a' (rowsT (es ++ [.mk c1 n1 i1 es1])) := by
        rw [rowsT_append]
        simpa [rowsT] using ha'
      have := ihj (q + 1) k3 x' a' (es ++ [.mk c1 n1 i1 es1]) (by omega) (by omega) hk5 (by simp; omega) (TysB.snoc hqs hqn (by omega)) ha3
      simpa using this
  have disp : ∀ (k1 : Nat) (r : Int), 0 ≤ r → k ≤ k1 → k1 ≤ l.length → (r ≠ 0 → k < k1) → (5 < r → 0 < d) → P26_1 R 0 L.ro L.rt (.ptr id 0) dv (I64 d) (I64 vars) (.ptr (bs.length + m.length) 0) (I64 r) ⟨ST bs id l k1 ++ (m ++ [Z4]), ts⟩ (QM rr N Post) := by
    intro k1 r h0r h1 h2 hkk hd5
    have c7 : ∀ B : Bool, (r = 10 ∨ r = 11 → B = true) → (B = true → r = 10 ∨ r = 11) → 9 < r → P26_7 R 0 L.ro L.rt (.ptr id 0) dv (I64 d) (I64 vars) (.ptr (bs.length + m.length) 0) (I64 r) (BB B) ⟨ST bs id l k1 ++ (m ++ [Z4]), ts⟩ (QM rr N Post) := by
      intro B hB1 hB2 h9
      have hd0 := hd5 (by omega)
      have hk0 := hkk (by omega)
      have eL : ∀ k, (ST bs id l k ++ (m ++ [Z4])).length = bs.length + m.length + 1 := fun k => by simp [ST_len]; omega
      have eA : ∀ (k : Nat) (b : List AV) (t : List (Nat × Nat)), (⟨(ST bs id l k ++ (m ++ [Z4])) ++ [b], t⟩ : Sto) = ⟨ST bs id l k ++ (m ++ [Z4, b]), t⟩ := fun k b t => by simp
      have st4 : ∀ (k : Nat) (t : List (Nat × Nat)) (z b : List AV), z.length = 4 → b.length = 4 → (b.all okCell) = true → ∀ K : Sto → Prop, K ⟨ST bs id l k ++ (m ++ [Z4, b]), t⟩ → wSt (LFE (env R) 26 0 L.ro L.rt) ⟨ST bs id l k ++ (m ++ [Z4, z]), t⟩ 4 (.ptr (bs.length + m.length + 1) 0) (.agg b) K := by
        intro k t z b hz hb hok K hK
        have hce : cellsOf (.agg b) = b := rfl
        simp only [wSt, loc_get, List.getElem?_cons_succ, List.getElem?_cons_zero, wO, hce]
        refine ⟨⟨hb, by omega, by have := g1 1; simp [LFE]; omega, hok, .inl (by simp [LFE]), by omega⟩, ?_⟩
        rw [loc_set]
        have : setCells z 0 b = b := by
          obtain ⟨z0, z1, z2, z3, rfl⟩ : ∃ z0 z1 z2 z3, z = [z0, z1, z2, z3] := by
            rcases z with _ | ⟨a, _ | ⟨b, _ | ⟨c, _ | ⟨d, _ | ⟨e, l⟩⟩⟩⟩⟩ <;> simp at hz
            exact ⟨_, _, _, _, rfl⟩
          obtain ⟨b0, b1, b2, b3, rfl⟩ : ∃ z0 z1 z2 z3, b = [z0, z1, z2, z3] := by
            rcases b with _ | ⟨a, _ | ⟨b, _ | ⟨c, _ | ⟨d, _ | ⟨e, l⟩⟩⟩⟩⟩ <;> simp at hb
            exact ⟨_, _, _, _, rfl⟩
          simp [setCells]
        rw [this]
        exact hK
      refine p26_7 ?_
      cases B with
      | true =>
        refine co_t ?_
        refine bd_of (cs := [I64 3, SS [], I64 0, .capped []]) (by simp) ?_
        simp only [wNew, eL, eA]
        refine st4 _ _ _ _ rfl rfl (by simp [okCell]) _ ?_
        have hm2 : LocB bs (m ++ [Z4, [I64 3, SS [], I64 0, .capped []]]) := locB_push hm (by simp [idsLtL, idsLt])
        refine wCall_do (next_spec (n := 4) hB hm2 h2 (by omega) (by omega) _ (by simpa [LFE] using hro) ts) ?_
        rintro v s1 ⟨r2, k2, rfl, hr3, hr4, hk3, hk4, rfl⟩
        obtain ⟨j, rfl⟩ := Int.eq_ofNat_of_zero_le hr3
        have := loop k2 j hd0 (by omega) hk4 (by omega) j 0 k2 [] (.capped []) [] (by omega) (Nat.le_refl _) hk4 rfl TysB.nil (.inl (by simp [rowsT]))
        simpa using this
      | false =>
        refine co_f (in_eql ?_)
        cases b12 : (r == 12) with
        | true =>
          refine co_t ?_
          refine wCall_pure any_spec ?_
          rintro v rfl
          simp only [wNew, eL, eA]
          refine st4 _ _ _ _ rfl rfl (by simp [okCell]) _ ?_
          have hm2 : LocB bs (m ++ [Z4, [I64 0, SS [], I64 0, .capped []]]) := locB_push hm (by simp [idsLtL, idsLt])
          refine wCall_do (next_spec (n := 2) hB hm2 h2 (by omega) (by omega) _ (by simpa [LFE] using hro) ts) ?_
          rintro v s1 ⟨r2, k2, rfl, hr3, hr4, hk3, hk4, rfl⟩
          refine in_eql ?_
          cases (r2 == 1) with
          | true =>
            refine co_t ?_
            have e1 : (I64 (1 : Int)) = I64 ((1 : Nat) : Int) := rfl
            have e0 : (I64 (0 : Int)) = I64 ((0 : Nat) : Int) := rfl
            refine wCall_do (iht 1 (by omega) hm2 hk4 0 (by omega) (by have := mus k2 (by omega) hk4; omega) (LFE (env R) 26 0 L.ro L.rt) hro ts (by simpa [LFE] using hrt)) ?_
            rintro v s1 ⟨t, k3, x, hv, hb, hk5, hk6, rfl⟩
            have hv' := hv
            obtain ⟨c1, n1, i1, es1⟩ := t
            obtain ⟨a1, rfl, ha1⟩ := hv'
            refine st4 _ _ _ _ rfl rfl (by simp [ha1.ok]) _ ?_
            exact exis k3 x _ _ hv rfl (by simp [ha1.ok]) (by simp [idsLtL, idsLt, ha1.idsLt]) hd0 (by omega) hk6 (hb.mono (by omega))
          | false =>
            have := exis k2 [] (.mk 0 [] 0 []) [I64 0, SS [], I64 0, .capped []] ⟨_, rfl, by simp [rowsT]; exact .inl (.capped _)⟩ rfl (by simp [okCell]) (by simp [idsLtL, idsLt]) hd0 (by omega) hk4 (TyB.leaf (by simp) (by omega) (by omega))
            simpa using this
        | false => exact co_f (last k1 hk0 h2)
    have c6 : ∀ B : Bool, (B = true → 7 < r) → (B = false → 9 < r) → P26_6 R 0 L.ro L.rt (.ptr id 0) dv (I64 d) (I64 vars) (.ptr (bs.length + m.length) 0) (I64 r) (BB B) ⟨ST bs id l k1 ++ (m ++ [Z4]), ts⟩ (QM rr N Post) := by
      intro B hB1 hB2
      refine p26_6 ?_
      cases B with
      | true =>
        have h8 := hB1 rfl
        have hd0 := hd5 (by omega)
        have hk0 := hkk (by omega)
        refine co_t (in_sub (by omega) (by omega) ?_)
        have e3 : ((d : Nat) : Int) - 1 = ((d - 1 : Nat) : Int) := by omega
        rw [e3]
        refine wCall_do (iht (d - 1) (by omega) hm' h2 vars (by omega) (by have := mu k1 h1; omega) (LFE (env R) 26 0 L.ro L.rt) hro ts (by simpa [LFE] using hrt)) ?_
        rintro v s1 ⟨t, k2, x, hv, hb, hk3, hk4, rfl⟩
        refine in_sub (by omega) (by omega) ?_
        rw [e3]
        refine wCall_do (iht (d - 1) (by omega) hm' hk4 vars (by omega) (by have := mu k2 (by omega); omega) (LFE (env R) 26 0 L.ro L.rt) hro (ts ++ x) (rt' x)) ?_
        rintro w s1 ⟨u, k3, x3, hw, hc, hk5, hk6, rfl⟩
        refine two_rows hv hw _ _ ?_
        refine wCall_pure (unionA_spec (.capped _)) ?_
        rintro y rfl
        rw [List.append_assoc]
        exact fin k3 (x ++ x3) [] (.mk 4 [] 0 [t, u]) _ ⟨_, rfl, .inl (.capped _)⟩ (TyB.pair (by omega) hb hc (by omega)) (by omega) hk6
      | false =>
        have h9 := hB2 rfl
        refine co_f (in_eql ?_)
        cases b10 : (r == 10) with
        | true => exact co_t (c7 true (fun _ => rfl) (fun _ => .inl (by simpa using b10)) h9)
        | false =>
          have n10 : ¬ r = 10 := by simpa using b10
          refine co_f (in_eql (c7 _ ?_ ?_ h9))
          · rintro (h | h)
            · exact absurd h n10
            · simpa using h
          · intro h
            exact .inr (by simpa using h)
    have c5 : ∀ B : Bool, (B = false → 7 < r) → P26_5 R 0 L.ro L.rt (.ptr id 0) dv (I64 d) (I64 vars) (.ptr (bs.length + m.length) 0) (I64 r) (BB B) ⟨ST bs id l k1 ++ (m ++ [Z4]), ts⟩ (QM rr N Post) := by
      intro B hx
      refine p26_5 ?_
      cases B with
      | true => exact co_t (nominal k1 h1 h2)
      | false =>
        have h7 := hx rfl
        refine co_f (in_eql ?_)
        cases b8 : (r == 8) with
        | true => exact co_t (c6 true (fun _ => h7) (fun h => by cases h))
        | false =>
          have n8 : ¬ r = 8 := by simpa using b8
          refine co_f (in_eql (c6 _ (fun _ => h7) (fun h => ?_)))
          have n9 : ¬ r = 9 := by simpa using h
          omega
    have c3 : ∀ B : Bool, (B = false → 4 < r) → P26_3 R 0 L.ro L.rt (.ptr id 0) dv (I64 d) (I64 vars) (.ptr (bs.length + m.length) 0) (I64 r) (BB B) ⟨ST bs id l k1 ++ (m ++ [Z4]), ts⟩ (QM rr N Post) := by
      intro B hx
      refine p26_3 ?_
      cases B with
      | true =>
        refine co_t (in_gtr ?_)
        by_cases hv0 : vars = 0
        · have b0 : decide ((vars : Int) > 0) = false := by simp; omega
          rw [b0]
          exact co_f (p26_4 (nominal k1 h1 h2))
        · have b0 : decide ((vars : Int) > 0) = true := by simp; omega
          rw [b0]
          refine co_t ?_
          refine wCall_do (next_spec (n := vars) hB hm' h2 (by omega) (by omega) _ (by simpa [LFE] using hro) ts) ?_
          rintro v s1 ⟨r2, k2, rfl, hr3, hr4, hk3, hk4, rfl⟩
          refine wCall_pure (var_spec r2) ?_
          rintro v rfl
          exact fin0 k2 [] (.mk 5 [] r2 []) _ ⟨_, rfl, by simp [rowsT]; exact .inl (.capped _)⟩ (TyB.leaf (by simp) (by omega) (by omega)) (by omega) hk4
      | false =>
        have h4' := hx rfl
        refine co_f (in_eql ?_)
        cases b5 : (r == 5) with
        | true => exact co_t (c5 true (fun h => by cases h))
        | false =>
          have n5 : ¬ r = 5 := by simpa using b5
          refine co_f (in_eql ?_)
          cases b6 : (r == 6) with
          | true => exact co_t (c5 true (fun h => by cases h))
          | false =>
            have n6 : ¬ r = 6 := by simpa using b6
            refine co_f (in_eql (c5 _ (fun h => ?_)))
            have n7 : ¬ r = 7 := by simpa using h
            omega
    have c2 : ∀ B : Bool, (B = false → 1 < r) → P26_2 R 0 L.ro L.rt (.ptr id 0) dv (I64 d) (I64 vars) (.ptr (bs.length + m.length) 0) (I64 r) (BB B) ⟨ST bs id l k1 ++ (m ++ [Z4]), ts⟩ (QM rr N Post) := by
      intro B hx
      refine p26_2 ?_
      cases B with
      | true =>
        refine co_t (ld_glob hW ?_)
        refine wCall_do (next_spec (n := 4) hB hm' h2 (by omega) (by omega) _ (by simpa [LFE] using hro) ts) ?_
        rintro v s1 ⟨r2, k2, rfl, hr3, hr4, hk3, hk4, rfl⟩
        obtain ⟨w, hw, hwl⟩ := leaf_name hW h4 sW hr3 hr4
        refine idx_str hr3 hw (ld_str ?_)
        refine wCall_pure (namedA_spec (.capped [])) ?_
        rintro v rfl
        exact wSt_and (ld_glob hW (eqA_strRows W)) (fin0 k2 [] (.mk 2 w 0 []) _ ⟨_, rfl, by simp [rowsT]; exact .inl (.capped _)⟩ (TyB.leaf hwl (by omega) (by omega)) (by omega) hk4)
      | false =>
        have h1' := hx rfl
        refine co_f (in_eql ?_)
        cases b2 : (r == 2) with
        | true =>
          refine co_t ?_
          refine wCall_pure any_spec ?_
          rintro v rfl
          exact fin0 k1 [] (.mk 0 [] 0 []) _ ⟨_, rfl, by simp [rowsT]; exact .inl (.capped _)⟩ (TyB.leaf (by simp) (by omega) (by omega)) h1 h2
        | false =>
          have n2 : ¬ r = 2 := by simpa using b2
          refine co_f (in_eql ?_)
          cases b3 : (r == 3) with
          | true => exact co_t (c3 true (fun h => by cases h))
          | false =>
            have n3 : ¬ r = 3 := by simpa using b3
            refine co_f (in_eql (c3 _ (fun h => ?_)))
            have n4 : ¬ r = 4 := by simpa using h
            omega
    refine p26_1 (in_eql ?_)
    cases b0 : (r == 0) with
    | true => exact co_t (c2 true (fun h => by cases h))
    | false =>
      have n0 : ¬ r = 0 := by simpa using b0
      refine co_f (in_eql (c2 _ (fun h => ?_)))
      have n1 : ¬ r = 1 := by simpa using h
      omega
  refine p26_0 ?_
  simp only [wNew, List.append_assoc, List.length_append, ST_len]
  refine wCall_do (next_spec2 (n := 14) hB hm' hk (by omega) (by omega) _ (by simpa [LFE] using hro) ts) ?_
  rintro v s1 ⟨r, k1, rfl, hr1, hr2, hk1, hk2, hk3, rfl⟩
  refine in_leq ?_
  by_cases hd0 : d = 0
  · have b0 : decide ((d : Int) ≤ 0) = true := by simp; omega
    rw [b0]
    refine gk_t (gk_t (in_gtr (pk ?_)))
    cases b5 : decide (r > 5) with
    | true => exact co_t (disp k1 0 (by omega) hk1 hk2 (fun h => absurd rfl h) (by omega))
    | false =>
      have n5 : ¬ r > 5 := by simpa using b5
      exact co_f (disp k1 r hr1 hk1 hk2 hk3 (by omega))
  · have b0 : decide ((d : Int) ≤ 0) = false := by simp; omega
    rw [b0]
    exact gk_f (by simp) (gk_f (by simp) (pk (co_f (disp k1 r hr1 hk1 hk2 hk3 (by omega)))))
end
end Go.Proofs.YtmipbilokjkjiaaGreatDoor
/-
  Generated terms: the generators joined.
-/
namespace Go.Proofs.YtmipbilokjkjiaaGreatDoor
open Go.Tel
section
variable {bs : List (List AV)} {id : Nat} {l : Src} {R : Nat → Option (List PV)}
theorem gen_all (hB : Base bs id l) {W : List (List UInt8)} (hW : (env R).G 4 = some (strRow W)) (h4 : W.length = 4) (sW : Short W) {dv : AV} {rows : List (List PV)} (hD : Decls dv rows) : ∀ μ : Nat,
    (∀ d : Nat, d ≤ 20 → GenT R bs id l dv 26 d (3 * d + 2) μ) ∧ (∀ d : Nat, d ≤ 20 → GenT R bs id l dv 48 d (3 * d + 1) μ) ∧ (∀ e : Int, -1 ≤ e → e ≤ 20 → GenT R bs id l dv 51 e (3 * (e + 1).toNat) μ) := by
  intro μ
  induction μ with
  | zero => exact ⟨fun d _ m _ k _ vars _ h => absurd h (Nat.not_lt_zero _), fun d _ m _ k _ vars _ h => absurd h (Nat.not_lt_zero _), fun e _ _ m _ k _ vars _ h => absurd h (Nat.not_lt_zero _)⟩
  | succ μ ih =>
    obtain ⟨i1, i2, i3⟩ := ih
    exact ⟨fun d hd => term_step hB hW h4 sW μ i2 i1 d hd, fun d hd => named_step hB hW h4 sW hD μ i3 d hd, fun e he he2 => arg_step hB hW h4 sW μ i2 i1 e he he2⟩
theorem openTerm_spec (hB : Base bs id l) {W : List (List UInt8)} (hW : (env R).G 4 = some (strRow W)) (h4 : W.length = 4) (sW : Short W) {dv : AV} {rows : List (List PV)} (hD : Decls dv rows) (vars : Nat) (hv : vars ≤ 80) {m : List (List AV)} (hm : LocB bs m) {k : Nat} (hk : k ≤ l.length) (L : Lim) (hro : L.ro ≤ id) (ts : List (Nat × Nat)) (hrt : L.rt ≤ ts.length) :
    ∃ v s', (∃ t k' x, TRepO t v ∧ TyB (8 * (k' - k) + 1) t ∧ k ≤ k' ∧ k' ≤ l.length ∧ s' = ⟨ST bs id l k' ++ m, ts ++ x⟩) ∧ CallE (env R) L 16 [.ptr id 0, dv, I64 vars] ⟨ST bs id l k ++ m, ts⟩ v s' := by
  have hlen := hB.len
  have hlt := hB.lt
  suffices H : ∀ (rr : Bool) (N : Nat) (Post : AV → Sto → Prop), N = bs.length + m.length → (∀ t v k' x, TRepO t v → TyB (8 * (k' - k) + 1) t → k ≤ k' → k' ≤ l.length → Post v ⟨ST bs id l k' ++ m, ts ++ x⟩) → P16_0 R 0 L.ro L.rt (.ptr id 0) dv (I64 vars) ⟨ST bs id l k ++ m, ts⟩ (QM rr N Post) from
    m16 (by simp [noIdL, noId]) (H _ _ _ (by simp [ST_len]) fun t v k' x h1 h2 h3 h4 => ⟨t, k', x, h1, h2, h3, h4, rfl⟩)
  intro rr N Post hN hP
  refine p16_0 ?_
  simp only [wNew, List.append_assoc, List.length_append, ST_len]
  refine wCall_do ((gen_all hB hW h4 sW hD _).1 3 (by omega) (Z4_ids hm) hk vars (by omega) (Nat.lt_succ_self _) (LFE (env R) 16 0 L.ro L.rt) hro ts (by simpa [LFE] using hrt)) ?_
  rintro v s1 ⟨t, k3, x, hv, hb, hk3, hk4, rfl⟩
  exact tyO_leaf (R := R) (Post := Post) (rr := rr) (N := N) (k := k3) (ts := ts ++ x) (Z := Z4) (r := []) (L' := LFE (env R) 16 0 L.ro L.rt) hB hm rfl hN hro rfl hv (fun y hy => hP t y k3 x hy hb hk3 hk4)
end
def declB : List (List PV) → Bool
  | [] => true
  | r :: l => (match r with
    | .sc (.string a) :: .sc (.int .i64 n) :: rest => rest.length == 6 && (decide (0 ≤ n) && (decide (n ≤ 2) && (decide (a.data.size < 2 ^ 50) && (r.map AV.pv).all okCell)))
    | _ => false) && declB l
theorem declB_row : ∀ {l : List (List PV)}, declB l = true → ∀ r ∈ l, DeclRow r
  | [], _, r, h => by cases h
  | r :: l, hl, r', h => by
    simp only [declB, Bool.and_eq_true] at hl
    rcases List.mem_cons.1 h with rfl | h
    · have h1 := hl.1
      split at h1
      · rename_i a n rest
        simp only [Bool.and_eq_true, decide_eq_true_eq, beq_iff_eq] at h1
        obtain ⟨h1, h2, h3, h4, h5⟩ := h1
        refine ⟨a.data.toList, n.toNat, rest, ?_, h1, by omega, by simpa using h4, h5⟩
        have : ((n.toNat : Nat) : Int) = n := by omega
        rw [this]
      · cases h1
    · exact declB_row hl.2 r' h
def baseB : Option AV → Bool
  | some (.capped rows) => decide (rows.length < 100) && declB rows
  | _ => false
theorem base_ev {R : Nat → Option (List PV)} : baseB (pureV (env R) 60 17 []) = true := by kernel_rfl
theorem base_spec {R : Nat → Option (List PV)} : PureC (env R) 17 [] fun v => ∃ rows, Decls v rows := by
  have h := base_ev (R := R)
  cases hv : pureV (env R) 60 17 [] with
  | none => rw [hv] at h; cases h
  | some v =>
    rw [hv] at h
    unfold baseB at h
    split at h
    · rename_i rows he
      cases he
      simp only [Bool.and_eq_true, decide_eq_true_eq] at h
      exact ⟨_, ⟨rows, .inl (.capped _), declB_row h.2, h.1⟩, fun L s => CallE.of_some (callN_pure (args' := []) (by kernel_rfl) (by kernel_rfl) (by simp [closeL]) rfl hv L s)⟩
    · cases h
end Go.Proofs.YtmipbilokjkjiaaGreatDoor
/-
  The law TypetextFormat, but for its sanity check.
-/
namespace Go.Proofs.YtmipbilokjkjiaaGreatDoor
open Go.Tel
attribute [local simp] wNew wBox wBoxZ markT wCond wBuild fillS wO setCells wSt wLd wPart LFE wFad alive wInt wStr wGK wGd wPick wExt wLen wSlen wNot wNil okI ceI okB ceB okS ceS okL ceL okC ceC okO ceO okP ceP okG ceG okE ceE okR ceR okF ceF okX ceX okM ceM okN ceN okNf ceNf okNi ceNi ceA roL roC roO leL leC leO tpP tpC tpO clP clC clO clF clA clT clN clL nbP nbC nbO nbN nbL toPVs
section
variable {R : Nat → Option (List PV)}
theorem fmtO {t : Ty} (h : size t < 2 ^ 60) (ho : okT t) (hsm : smallV t = true) {x : AV} (hx : TRepO t x) : PureC (env R) 10 [x] fun r => r = SS (textT t) := by
  obtain ⟨x', h1, h2, h3⟩ := hx.closed
  exact PureC.of_closed (by kernel_rfl) (by kernel_rfl) (args' := [x']) (by simp [h1]) (by simp [h3]) (format_spec h ho hsm h2)
theorem rfmtO {t : Ty} (h : size t < 2 ^ 60) (ho : okT t) (hsm : smallV t = true) {x : AV} (hx : TRepO t x) : PureC (env R) 12 [x] fun r => r = SS (textT t) := by
  obtain ⟨x', h1, h2, h3⟩ := hx.closed
  exact PureC.of_closed (by kernel_rfl) (by kernel_rfl) (args' := [x']) (by simp [h1]) (by simp [h3]) (rformat_spec h ho hsm h2)
set_option maxRecDepth 20000 in
set_option maxHeartbeats 4000000 in
theorem law4_spec (hcheck : PureC (env R) 11 [] fun v => v = BB true) {S W : List (List UInt8)} (hS : (env R).G 0 = some (strRow S)) (hW : (env R).G 4 = some (strRow W)) (sS : Short S) (sW : Short W) (h4 : W.length = 4) (l : List Int) (hl : l.length < 2 ^ 50) (n : Int) :
    PureC (env R) 4 [.pv (.list (intRows l)), I64 n] fun v => v = BB true := by
  refine e4 (u0 := .pv (.list (intRows l))) (u1 := I64 n) (by simp) (p4_0 ?_)
  have hSl := Src.of_length l
  have hB : Base [StB (.of l) 0] 0 (.of l) := ⟨by simp, by simp [StB_ids], by rw [Src.of_length]; omega⟩
  have hST : ∀ k, Tel.ST [StB (.of l) 0] 0 (.of l) k = [StB (.of l) k] := fun k => by simp [Tel.ST]
  have h0 : LocB [StB (.of l) 0] [] := fun b hb => by cases hb
  refine wCall_do (new_spec l _ _) ?_
  rintro v s1 ⟨rfl, rfl⟩
  have e0 : (⟨[] ++ [StB (.of l) 0], []⟩ : Sto) = ⟨Tel.ST [StB (.of l) 0] 0 (.of l) 0 ++ [], []⟩ := by simp [hST]
  show wCall (env R) _ _ _ ⟨[] ++ [StB (.of l) 0], []⟩ _
  rw [e0]
  refine wCall_pure base_spec ?_
  rintro dv ⟨rows, hD⟩
  refine wCall_pure (mod_spec n 4 (by omega) (by omega)) ?_
  rintro v ⟨r, rfl, hr1, hr2⟩
  obtain ⟨j, rfl⟩ := Int.eq_ofNat_of_zero_le hr1
  refine wCall_do (openTerm_spec hB hW h4 sW hD j (by omega) h0 (k := 0) (by omega) (LFE (env R) 4 0 0 0) (by simp [LFE]) [] (by simp [LFE])) ?_
  rintro x s1 ⟨t1, k1, x1, hx, ht1, _, hk1, rfl⟩
  refine wCall_do (anyTerm_spec hB hS sS 4 (by omega) h0 hk1 (LFE (env R) 4 0 0 0) (by simp [LFE]) ([] ++ x1) (by simp [LFE])) ?_
  rintro y s1 ⟨t2, k2, x2, hy, ht2, hk2, hk3, rfl⟩
  simp only [hST, List.append_nil, List.nil_append, wNew, List.length_cons, List.length_nil, List.cons_append]
  have s1' : size t1 < 2 ^ 60 := by have := ht1.2.2; omega
  have s2' : size t2 < 2 ^ 60 := by have := ht2.2.2; omega
  have A1 := fmtO (R := R) s1' ht1.1 ht1.2.1 hx
  have A2 := rfmtO (R := R) s1' ht1.1 ht1.2.1 hx
  have B1 := fmtO (R := R) s2' ht2.1 ht2.2.1 hy
  have B2 := rfmtO (R := R) s2' ht2.1 ht2.2.1 hy
  have hx1 := hx.self
  have hy1 := hy.self
  generalize textT t1 = T1 at A1 A2
  generalize textT t2 = T2 at B1 B2
  obtain ⟨c1, n1, i1, ts1⟩ := t1
  obtain ⟨c2, n2, i2, ts2⟩ := t2
  obtain ⟨a, rfl, ha⟩ := hx
  obtain ⟨b, rfl, hb⟩ := hy
  clear hD hB h0 hW hS sS sW h4 ht1 ht2 s1' s2'
  have q1 : (I64 c1 :: SS n1 :: I64 i1 :: [a]).all okCell = true := by simp [ha.ok]
  have q2 : (I64 c2 :: SS n2 :: I64 i2 :: [b]).all okCell = true := by simp [hb.ok]
  generalize hX : [I64 c1, SS n1, I64 i1, a] = X at *
  generalize hY : [I64 c2, SS n2, I64 i2, b] = Y at *
  have hX4 : X.length = 4 := by rw [← hX]; rfl
  have hY4 : Y.length = 4 := by rw [← hY]; rfl
  have sX : setCells [I64 0, SS [], I64 0, .capped []] 0 X = X := by rw [← hX]; rfl
  have sY : setCells [I64 0, SS [], I64 0, .capped []] 0 Y = Y := by rw [← hY]; rfl
  generalize StB (.of l) k2 = Q
  generalize x1 ++ x2 = ts
  have z1 : ∀ K : Sto → Prop, K ⟨[Q, X, [I64 0, SS [], I64 0, .capped []]], ts⟩ → wSt (LFE (env R) 4 0 0 0) ⟨[Q, [I64 0, SS [], I64 0, .capped []], [I64 0, SS [], I64 0, .capped []]], ts⟩ 4 (.ptr 1 0) (.agg X) K := by
    intro K hK
    have hce : cellsOf (.agg X) = X := rfl
    simp only [wSt, List.getElem?_cons_succ, List.getElem?_cons_zero, wO, hce]
    refine ⟨⟨hX4, by simp; omega, by simp [LFE], q1, .inl (by simp [LFE]), by omega⟩, ?_⟩
    rw [sX]
    exact hK
  have z2 : ∀ K : Sto → Prop, K ⟨[Q, X, Y], ts⟩ → wSt (LFE (env R) 4 0 0 0) ⟨[Q, X, [I64 0, SS [], I64 0, .capped []]], ts⟩ 4 (.ptr 2 0) (.agg Y) K := by
    intro K hK
    have hce : cellsOf (.agg Y) = Y := rfl
    simp only [wSt, List.getElem?_cons_succ, List.getElem?_cons_zero, wO, hce]
    refine ⟨⟨hY4, by simp; omega, by simp [LFE], q2, .inl (by simp [LFE]), by omega⟩, ?_⟩
    rw [sY]
    exact hK
  have l1 : ∀ K : AV → Prop, K (.agg X) → wLd (env R) ⟨[Q, X, Y], ts⟩ (some 4) (.ptr 1 0) K := by
    intro K hK
    simp only [wLd, List.getElem?_cons_succ, List.getElem?_cons_zero, wO, wPart, List.drop_zero]
    refine ⟨by omega, ?_⟩
    rw [List.take_of_length_le (by omega)]
    exact hK
  have l2 : ∀ K : AV → Prop, K (.agg Y) → wLd (env R) ⟨[Q, X, Y], ts⟩ (some 4) (.ptr 2 0) K := by
    intro K hK
    simp only [wLd, List.getElem?_cons_succ, List.getElem?_cons_zero, wO, wPart, List.drop_zero]
    refine ⟨by omega, ?_⟩
    rw [List.take_of_length_le (by omega)]
    exact hK
  have se : ∀ (u : List UInt8) (K : AV → Prop), K (BB true) → wStr .eql (SS u) (SS u) K := by
    intro u K hK
    simp
    exact hK
  refine z1 _ (z2 _ (wCall_pure hcheck ?_))
  rintro _ rfl
  refine gk_t (l1 _ (gk_t (wCall_pure A1 ?_)))
  rintro _ rfl
  refine gk_t (l1 _ (gk_t (wCall_pure A2 ?_)))
  rintro _ rfl
  refine gk_t (se _ _ (pk ?_))
  refine gk_t (l2 _ (gk_t (wCall_pure B1 ?_)))
  rintro _ rfl
  refine gk_t (l2 _ (gk_t (wCall_pure B2 ?_)))
  rintro _ rfl
  exact gk_t (se _ _ (pk ⟨gk_t (l1 _ hx1), gk_t (l2 _ hy1), ⟨_, rfl, rfl⟩⟩))
end
end Go.Proofs.YtmipbilokjkjiaaGreatDoor
