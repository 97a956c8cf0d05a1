/-
  Streams; words of listed variables.
-/
import Derived.Test.YtcmeadgdojfhnaaGreatDoorTD
import Derived.Test.YtcmeadgdojfhnaaGreatDoorWpW
set_option linter.unusedSimpArgs false
set_option linter.unusedVariables false
namespace Go.Proofs.YtcmeadgdojfhnaaGreatDoor
open Go.Tel
attribute [local simp] wNew wBox wBoxZ markT wCond wBuild fillS wO setCells wSt wLd wPart LFE wFad alive wInt wStr wGK wGd wPick wExt wLen wSlen wNot wNil okI ceI okB ceB okS ceS okL ceL okC ceC okO ceO okP ceP okG ceG okE ceE okR ceR okF ceF okX ceX okM ceM okN ceN okNf ceNf okNi ceNi ceA roL roC roO leL leC leO tpP tpC tpO clP clC clO clF clA clT clN clL nbP nbC nbO nbN nbL toPVs
section
variable {R : Nat → Option (List PV)}
theorem tmod_gt (a : Int) {b : Int} (hb : 0 < b) : -b < a.tmod b := by
  by_cases ha : 0 ≤ a
  · have := Int.tmod_nonneg b ha
    omega
  · have h1 : (-a).tmod b < b := Int.tmod_lt_of_pos _ hb
    have h2 := Int.neg_tmod a b
    omega
theorem mod_spec (a b : Int) (hb : 0 < b) (hb2 : b < 2 ^ 62) : PureC (env R) 7 [I64 a, I64 b] fun v => ∃ r, v = I64 r ∧ 0 ≤ r ∧ r < b := by
  refine e7 rfl (p7_0 ?_)
  have h1 := Int.tmod_lt_of_pos a hb
  have h2 := tmod_gt a hb
  simp only [wInt, wCond]
  refine ⟨⟨trivial, trivial⟩, by omega, ⟨trivial, trivial⟩, fun h => ?_, fun h => ?_⟩
  · simp at h
    refine ⟨⟨trivial, trivial⟩, wAri_fit (by omega) (by omega) (p7_1 ?_)⟩
    exact ⟨_, clP, _, rfl, by omega, by omega⟩
  · simp at h
    refine p7_1 ?_
    exact ⟨_, clP, _, rfl, by omega, by omega⟩
theorem ST_alive {bs : List (List AV)} {id : Nat} {l : Src} {k : Nat} {ts : List (Nat × Nat)} (h : id < bs.length) (m : List (List AV)) : alive ⟨ST bs id l k ++ m, ts⟩ id = true := by grind[alive,ST_get,StB]
theorem keep_all {bs : List (List AV)} {id : Nat} {l : Src} (hB : Base bs id l) {m : List (List AV)} (hm : LocB bs m) (k : Nat) {n : Nat} (hn : n = bs.length + m.length) : (((ST bs id l k ++ m).take n).all (idsLtL n)) = true := by
  rw [List.take_of_length_le (by grind[ST_len]), hn]
  exact hB.all hm k
theorem QM_ST {rr : Bool} {N : Nat} {bs : List (List AV)} {id : Nat} {l : Src} (hB : Base bs id l) {m : List (List AV)} (hm : LocB bs m) {k : Nat} {ts : List (Nat × Nat)} {Post : AV → Sto → Prop} {p : PV} (hN : N = bs.length + m.length)
    (h : Post (.pv p) ⟨ST bs id l k ++ m, ts⟩) : QM rr N Post (.pv p) ⟨ST bs id l k ++ m, ts⟩ := by grind[QM_pv,keep_all,ST_len]
theorem next_spec2 {bs : List (List AV)} {id : Nat} {l : Src} (hB : Base bs id l) {m : List (List AV)} (hm : LocB bs m) {k : Nat} (hk : k ≤ l.length) {n : Int} (hn : 0 < n) (hn2 : n < 2 ^ 62) (L : Lim) (hro : L.ro ≤ id) (ts : List (Nat × Nat)) :
    ∃ v s', (∃ r k', v = I64 r ∧ 0 ≤ r ∧ r < n ∧ k ≤ k' ∧ k' ≤ l.length ∧ (r ≠ 0 → k < k') ∧ s' = ⟨ST bs id l k' ++ m, ts⟩) ∧ CallE (env R) L 39 [.ptr id 0, I64 n] ⟨ST bs id l k ++ m, ts⟩ v s' := by
  have hlen := hB.len
  have hlt := hB.lt
  suffices H : ∀ (rr : Bool) (N : Nat) (Post : AV → Sto → Prop), N = bs.length + m.length → (∀ r k', 0 ≤ r → r < n → k ≤ k' → k' ≤ l.length → (r ≠ 0 → k < k') → Post (I64 r) ⟨ST bs id l k' ++ m, ts⟩) → P39_0 R 0 L.ro L.rt (.ptr id 0) (I64 n) ⟨ST bs id l k ++ m, ts⟩ (QM rr N Post) from
    m39 (by rfl) (H _ _ _ (by simp [ST_len]) fun r k' h1 h2 h3 h4 h5 => ⟨r, k', rfl, h1, h2, h3, h4, h5, rfl⟩)
  intro rr N Post hN hP
  refine p39_0 ?_
  by_cases h : k = l.length
  · have h1 : ((k : Int) ≥ l.length) := by omega
    simp [ST_get hlt, StB, l.lenC, l.okC, h]
    grind[QM_ST]
  · have h1 : ¬ ((l.length : Int) ≤ k) := by omega
    simp [ST_get hlt, StB, l.lenC, l.okC]
    refine ⟨fun h2 => absurd h2 (by omega), fun _ => ?_⟩
    refine p39_1 ?_
    obtain ⟨a, ha⟩ : ∃ a, l.ints[k]? = some a := ⟨_, List.getElem?_eq_getElem (by assumption)⟩
    simp only [wNil, ST_alive hlt, wFad, wLd, wO, ST_get hlt, wInt]
    refine ⟨trivial, trivial, ?_⟩
    simp only [StB, wPart, wO, List.getElem?_cons_succ, List.getElem?_cons_zero, Nat.zero_add]
    refine ⟨⟨trivial, trivial⟩, wAri_fit (by omega) (by omega) ?_⟩
    simp only [wNil, ST_alive hlt, wFad, wSt, wO, ST_get hlt, LFE, ceI]
    refine ⟨trivial, trivial, ⟨by simp, by simp [StB], hro, by rfl, .inl (by omega), by omega⟩, ?_⟩
    have e : (ST bs id l k ++ m).set id (setCells (StB l k) (0 + 1) [I64 (k + 1)]) = ST bs id l (k + 1) ++ m := by
      have : setCells (StB l k) (0 + 1) [I64 (k + 1)] = StB l (k + 1) := by rfl
      grind[ST_set]
    simp only [e, wNil, ST_alive hlt, wFad, wLd, wO, ST_get hlt]
    refine ⟨trivial, trivial, ?_⟩
    simp only [StB, wPart, wO, List.getElem?_cons_succ, List.getElem?_cons_zero, Nat.zero_add]
    refine ⟨trivial, trivial, ⟨trivial, trivial⟩, wAri_fit (by omega) (by omega) ?_⟩
    refine wIdx_rowsO l.rows (row := [.sc (.int .i64 a)]) (by omega) ?_ rfl (by omega) ?_
    · simp[*,intRows]
    simp only [wLd, wPart, wO, List.map_cons, List.map_nil, List.getElem?_cons_zero]
    refine wCall_pure (mod_spec a n hn hn2) ?_
    grind[QM_ST]
theorem next_spec {bs : List (List AV)} {id : Nat} {l : Src} (hB : Base bs id l) {m : List (List AV)} (hm : LocB bs m) {k : Nat} (hk : k ≤ l.length) {n : Int} (hn : 0 < n) (hn2 : n < 2 ^ 62) (L : Lim) (hro : L.ro ≤ id) (ts : List (Nat × Nat)) :
    ∃ v s', (∃ r k', v = I64 r ∧ 0 ≤ r ∧ r < n ∧ k ≤ k' ∧ k' ≤ l.length ∧ s' = ⟨ST bs id l k' ++ m, ts⟩) ∧ CallE (env R) L 39 [.ptr id 0, I64 n] ⟨ST bs id l k ++ m, ts⟩ v s' := by
  obtain ⟨v, s', ⟨r, k', h1, h2, h3, h4, h5, _, h6⟩, h7⟩ := next_spec2 (R := R) hB hm hk hn hn2 L hro ts
  exact ⟨v, s', ⟨r, k', h1, h2, h3, h4, h5, h6⟩, h7⟩
theorem new_spec (l : List Int) (L : Lim) (s : Sto) : ∃ v s', (v = .ptr s.bs.length 0 ∧ s' = ⟨s.bs ++ [StB (.of l) 0], s.ts⟩) ∧ CallE (env R) L 21 [.pv (.list (intRows l))] s v s' := by
  refine m21 (p21_0 ?_)
  simp [StB, Src.of]
end
section
variable {bs : List (List AV)} {id : Nat} {l : Src}
theorem loc_get (k : Nat) (m r : List (List AV)) (j : Nat) : (ST bs id l k ++ (m ++ r))[bs.length + m.length + j]? = r[j]? := by grind[ST_len]
theorem loc_get0 (k : Nat) (m r : List (List AV)) : (ST bs id l k ++ (m ++ r))[bs.length + m.length]? = r[0]? := loc_get k m r 0
theorem loc_set (k : Nat) (m r : List (List AV)) (j : Nat) (v : List AV) : (ST bs id l k ++ (m ++ r)).set (bs.length + m.length + j) v = ST bs id l k ++ (m ++ r.set j v) := by grind[ST_len]
theorem loc_set0 (k : Nat) (m r : List (List AV)) (v : List AV) : (ST bs id l k ++ (m ++ r)).set (bs.length + m.length) v = ST bs id l k ++ (m ++ r.set 0 v) := loc_set k m r 0 v
theorem locB_push {m : List (List AV)} (hm : LocB bs m) {r : List (List AV)} (hr : ∀ b ∈ r, idsLtL (bs.length + m.length + r.length) b = true) : LocB bs (m ++ r) := by
  intro b hb
  rcases List.mem_append.1 hb with h | h
  · exact idsLtL_mono (by simp) b (hm b h)
  grind
variable {R : Nat → Option (List PV)}
theorem strRow_get {l : List (List UInt8)} : strRow l = [.list (strRows l)] := rfl
theorem ld_glob {g : Nat} {T : List (List UInt8)} (hG : (env R).G g = some (strRow T)) {s : Sto} {K : AV → Prop} (h : K (.pv (.list (strRows T)))) : wLd (env R) s none (.gptr g 0) K := by
  simp [wLd, hG, wO, wPart, strRow_get]
  exact h
theorem eq_strRows : ∀ l : List (List UInt8), eqPLL (strRows l) (strRows l) = true
  | [] => by rfl
  | s :: l => by
    have := eq_strRows l
    grind[strRows,eqPLL,eqPL,eqP,eqV_str]
theorem wSt_and2 {L : Lim} {s : Sto} {k : Nat} {a x : AV} {K K' : Sto → Prop} (hC : ∀ s, K s → K' s) (h : wSt L s k a x K) : wSt L s k a x K' := by
  unfold wSt at h ⊢
  grind
theorem wSt_and {L : Lim} {s : Sto} {k : Nat} {a x : AV} {K : Sto → Prop} {C : Prop} (hC : C) (h : wSt L s k a x K) : wSt L s k a x fun s => C ∧ K s := wSt_and2 (fun _ h => ⟨hC, h⟩) h
theorem ld_str {s : Sto} {w : List UInt8} {K : AV → Prop} (h : K (SS w)) : wLd (env R) s none (.eptr [.sc (.string ⟨w.toArray⟩)] 0) K := by simp[*]
theorem idx_str {T : List (List UInt8)} {r : Int} {w : List UInt8} (h0 : 0 ≤ r) (hw : T[r.toNat]? = some w) {s : Sto} {K : AV → Prop} (h : K (.eptr [.sc (.string ⟨w.toArray⟩)] 0)) : wIdx s 1 (.pv (.list (strRows T))) (I64 r) K :=
  wIdx_rows (.list _) (row := [.sc (.string ⟨w.toArray⟩)]) h0 (by grind[strRows]) rfl (by omega) h
theorem eqA_strRows (T : List (List UInt8)) : eqA (.pv (.list (strRows T))) (.pv (.list (strRows T))) = true := by simp [eqA, eqP, eq_strRows]
theorem eqA_eptrS (w : List UInt8) : eqA (.eptr [.sc (.string ⟨w.toArray⟩)] 0) (.eptr [.sc (.string ⟨w.toArray⟩)] 0) = true := by simp [eqA, eqPL, eqP, eqV_str]
end
end Go.Proofs.YtcmeadgdojfhnaaGreatDoor
/-
  Generated terms: the ends.
-/
namespace Go.Proofs.YtcmeadgdojfhnaaGreatDoor
open Go.Tel
attribute [local simp] wNew wBox wBoxZ markT wCond wBuild fillS wO setCells wSt wLd wPart LFE wFad alive wInt wStr wGK wGd wPick wExt wLen wSlen wNot wNil okI ceI okB ceB okS ceS okL ceL okC ceC okO ceO okP ceP okG ceG okE ceE okR ceR okF ceF okX ceX okM ceM okN ceN okNf ceNf okNi ceNi ceA roL roC roO leL leC leO tpP tpC tpO clP clC clO clF clA clT clN clL nbP nbC nbO nbN nbL toPVs
theorem ApdT.eqA {lo : Nat} {ts : List (Nat × Nat)} {k : Nat} {a : AV} {es : List Ty} (h : Apd lo ts k a (rowsT es)) : Tel.eqA a a = true := by
  rcases h with rfl | ⟨t, rfl, _⟩
  all_goals simp[*,Tel.eqA,eqPLL_rows]
theorem rowsT_four {l : List Ty} : ∀ r ∈ rowsT l, r.length = 4 := fun _ h => rowsT_row h
section
variable {bs : List (List AV)} {id : Nat} {l : Src}
theorem QM_ty {rr : Bool} {N : Nat} (hB : Base bs id l) {m r : List (List AV)} (hm : LocB bs m) {k : Nat} {ts : List (Nat × Nat)} {Post : AV → Sto → Prop} (hN : N = bs.length + m.length) {c i : Int} {n : List UInt8} {es : List Ty} {a : AV} (ha : RowsO a (rowsT es))
    (h : ∀ x, TRepO (.mk c n i es) x → Post x ⟨ST bs id l k ++ m, ts⟩) : QM rr N Post (.agg [I64 c, SS n, I64 i, a]) ⟨ST bs id l k ++ (m ++ r), ts⟩ := by
  subst hN
  have e : (ST bs id l k ++ (m ++ r)).take (bs.length + m.length) = ST bs id l k ++ m := by grind[ST_len]
  obtain ⟨a', h1, h2⟩ := ha.close (ST bs id l k ++ (m ++ r)) (bs.length + m.length) ts.length
  refine QM_agg (ds := [I64 c, SS n, I64 i, a']) ?_ (by simp [h1]) ?_
  · simp only [e]
    exact hB.all hm k
  · simp only [e]
    exact h _ ⟨a', rfl, h2⟩
variable {R : Nat → Option (List PV)}
theorem ty_leaf (hB : Base bs id l) {m r : List (List AV)} (hm : LocB bs m) {k : Nat} {ts : List (Nat × Nat)} {Post : AV → Sto → Prop} {rr : Bool} {N : Nat} {L' : Lim} {Z : List AV} (hZ : Z.length = 4) (hN : N = bs.length + m.length) (hro : L'.ro ≤ id) (hn0 : L'.n0 = 0) {c i : Int} {n : List UInt8} {es : List Ty} {a : AV} (ha : RowsO a (rowsT es))
    (h : ∀ x, TRepO (.mk c n i es) x → Post x ⟨ST bs id l k ++ m, ts⟩) :
    wSt L' ⟨ST bs id l k ++ (m ++ Z :: r), ts⟩ 4 (.ptr (bs.length + m.length) 0) (.agg [I64 c, SS n, I64 i, a]) fun s1 => wLd (env R) s1 (some 4) (.ptr (bs.length + m.length) 0) fun r => QM rr N Post r s1 := by
  have hlt := hB.lt
  obtain ⟨z0, z1, z2, z3, rfl⟩ : ∃ z0 z1 z2 z3, Z = [z0, z1, z2, z3] := by
    rcases Z with _ | ⟨a, _ | ⟨b, _ | ⟨c, _ | ⟨d, _ | ⟨e, l⟩⟩⟩⟩⟩ <;> simp at hZ
    exact ⟨_, _, _, _, rfl⟩
  simp [loc_get0, loc_set0, show L'.ro ≤ bs.length + m.length by omega, hn0, ha.ok, ha.noBlk]
  grind[QM_ty]
theorem tyO_leaf (hB : Base bs id l) {m r : List (List AV)} (hm : LocB bs m) {k : Nat} {ts : List (Nat × Nat)} {Post : AV → Sto → Prop} {rr : Bool} {N : Nat} {L' : Lim} {Z : List AV} (hZ : Z.length = 4) (hN : N = bs.length + m.length) (hro : L'.ro ≤ id) (hn0 : L'.n0 = 0) {t : Ty} {v : AV} (hv : TRepO t v)
    (h : ∀ x, TRepO t x → Post x ⟨ST bs id l k ++ m, ts⟩) :
    wSt L' ⟨ST bs id l k ++ (m ++ Z :: r), ts⟩ 4 (.ptr (bs.length + m.length) 0) v fun s1 => wLd (env R) s1 (some 4) (.ptr (bs.length + m.length) 0) fun r => QM rr N Post r s1 := by
  obtain ⟨c, n, i, es⟩ := t
  obtain ⟨a, rfl, ha⟩ := hv
  exact ty_leaf hB hm hZ hN hro hn0 ha h
theorem namedA_spec {n : List UInt8} {a : AV} {rows : List (List PV)} (ha : RowsA a rows) : PureC (env R) 10 [SS n, a] fun r => r = .agg [I64 2, SS n, I64 0, a] := by
  refine e10 (u0 := SS n) (u1 := a) (by simp [ha.close]) (p10_0 ?_)
  simp [QP, QI, ha.ok, ha.cells, ha.close]
theorem var_spec (i : Int) : PureC (env R) 41 [I64 i] fun r => r = .agg [I64 5, SS [], I64 i, .capped []] := by
  refine e41 (u0 := I64 i) (by simp) (p41_0 (new_of (bd_of (cs := [I64 5, SS [], I64 i, .capped []]) rfl ?_)))
  refine st_all (old := Z4) rfl rfl rfl (by decide) (Nat.zero_le _) rfl (.inl (Nat.zero_le _)) (ldk_of (cs := [I64 5, SS [], I64 i, .capped []]) rfl rfl ?_)
  exact ⟨_, by simp, rfl⟩
end
end Go.Proofs.YtcmeadgdojfhnaaGreatDoor
/-
  Generated terms of small depth: arg, named, term.
-/
namespace Go.Proofs.YtcmeadgdojfhnaaGreatDoor
open Go.Tel
attribute [local simp] wNew wBox wBoxZ markT wCond wBuild fillS wO setCells wSt wLd wPart LFE wFad alive wInt wStr wGK wGd wPick wExt wLen wSlen wNot wNil okI ceI okB ceB okS ceS okL ceL okC ceC okO ceO okP ceP okG ceG okE ceE okR ceR okF ceF okX ceX okM ceM okN ceN okNf ceNf okNi ceNi ceA roL roC roO leL leC leO tpP tpC tpO clP clC clO clF clA clT clN clL nbP nbC nbO nbN nbL toPVs
abbrev leafW : List (List UInt8) := [[73, 110, 116], [66, 111, 111, 108], [83, 116, 114, 105, 110, 103], [78, 105, 108]]
def Sh0 (vars : Nat) (t : Ty) : Prop := (∃ v : Nat, v < vars ∧ t = .mk 5 [] v []) ∨ ∃ w ∈ leafW, t = .mk 2 w 0 []
def Sh1 (Dl : List Dc) (vars : Nat) (t : Ty) : Prop := Sh0 vars t ∨ t = .mk 0 [] 0 [] ∨ ∃ d ∈ Dl, ∃ es, t = .mk 2 d.nm 0 es ∧ es.length = d.ar ∧ ∀ e ∈ es, Sh0 vars e
theorem Z4_ids {bs m : List (List AV)} (hm : LocB bs m) : LocB bs (m ++ [Z4]) := locB_push hm (by simp [idsLtL, idsLt])
section
variable {bs : List (List AV)} {id : Nat} {l : Src} {R : Nat → Option (List PV)}
theorem env_G2 : (env R).G 2 = some (strRow leafW) := rfl
def Gen (R : RT) (bs : List (List AV)) (id : Nat) (l : Src) (dv : AV) (f : FuncId) (d : Int) (vars : Nat) (P : Ty → Prop) : Prop := ∀ {m : List (List AV)}, LocB bs m → ∀ {k : Nat}, k ≤ l.length → ∀ (L : Lim), L.ro ≤ id → ∀ (ts : List (Nat × Nat)), L.rt ≤ ts.length →
    ∃ v s', (∃ t k' x, TRepO t v ∧ P t ∧ k ≤ k' ∧ k' ≤ l.length ∧ s' = ⟨ST bs id l k' ++ m, ts ++ x⟩) ∧ CallE (env R) L f [.ptr id 0, dv, I64 d, I64 vars] ⟨ST bs id l k ++ m, ts⟩ v s'
theorem named_step (hB : Base bs id l) {dv : AV} {Dl : List Dc} (hD : RowsO dv (rowsD Dl)) (hDl : Dl.length ≤ 12) (hDa : ∀ d ∈ Dl, d.ar ≤ 2) (d : Nat) (hd : d ≤ 1) (vars : Nat) (hvars : vars ≤ 2) (iha : Gen R bs id l dv 40 ((d : Int) - 1) vars (Sh0 vars)) : Gen R bs id l dv 65 d vars (Sh1 Dl vars) := by
  intro m hm k hk L hro ts hrt
  have hlen := hB.len
  have hlt := hB.lt
  suffices H : ∀ (rr : Bool) (N : Nat) (Post : AV → Sto → Prop), N = bs.length + m.length → (∀ t v k' x, TRepO t v → Sh1 Dl vars t → k ≤ k' → k' ≤ l.length → Post v ⟨ST bs id l k' ++ m, ts ++ x⟩) → P65_0 R 0 L.ro L.rt (.ptr id 0) dv (I64 d) (I64 vars) ⟨ST bs id l k ++ m, ts⟩ (QM rr N Post) from
    m65 (by rfl) (H _ _ _ (by simp [ST_len]) fun t v k' x h1 h2 h3 h4 => ⟨t, k', x, h1, h2, h3, h4, rfl⟩)
  intro rr N Post hN hP
  have hrl : (rowsD Dl).length = Dl.length := rowsD_len Dl
  have g1 : ∀ n, L.ro ≤ bs.length + m.length + n := fun n => by omega
  refine p65_0 ?_
  simp only [wNew, List.append_assoc, List.length_append, ST_len]
  have hlenD : ∀ (s : Sto) (K : AV → Prop), K (I64 Dl.length) → wLen s dv K := by
    intro s K h
    simp only [wLen, hD.lenA, hrl, wO]
    exact h
  refine hlenD _ _ (in_add (by omega) (by omega) ?_)
  refine wCall_do (next_spec2 (n := (Dl.length : Int) + 4) hB (Z4_ids hm) hk (by omega) (by omega) _ (by simp[*]) ts) ?_
  rintro v s1 ⟨r, k1, rfl, hr1, hr2, hk1, hk2, hk3, rfl⟩
  refine in_lss ?_
  by_cases hr : r < 4
  · have b4 : decide (r < 4) = true := by grind
    rw [b4]
    obtain ⟨w, hw⟩ : ∃ w, leafW[r.toNat]? = some w := ⟨_, List.getElem?_eq_getElem (by simp [leafW]; omega)⟩
    refine co_t (ld_glob env_G2 (idx_str hr1 hw (ld_str ?_)))
    refine wCall_pure (namedA_spec (.capped [])) ?_
    rintro v rfl
    exact ty_leaf (R := R) (Post := Post) (rr := rr) (N := N) (k := k1) (ts := ts) (Z := Z4) (r := []) (es := []) (a := .capped []) (c := 2) (i := 0) (n := w) (L' := LFE (env R) 65 0 L.ro L.rt) hB hm rfl hN hro rfl (by simp [rowsT]; exact .inl (.capped _)) (fun x hx => by
      have := hP _ x k1 [] hx (.inl (.inr ⟨w, List.mem_of_getElem? hw, rfl⟩)) hk1 hk2
      grind)
  · have b4 : decide (r < 4) = false := by grind
    rw [b4]
    have hkk : k < k1 := hk3 (by omega)
    obtain ⟨dd, hdd⟩ : ∃ dd, Dl[(r - 4).toNat]? = some dd := ⟨_, List.getElem?_eq_getElem (by omega)⟩
    have hmem := List.mem_of_getElem? hdd
    obtain ⟨name, ar, rest, hre, h6, hen, hea⟩ : ∃ (name : List UInt8) (ar : Nat) (rest : List PV), rowD dd = .sc (.string ⟨name.toArray⟩) :: .sc (.int .i64 ar) :: rest ∧ rest.length = 6 ∧ dd.nm = name ∧ dd.ar = ar := ⟨dd.nm, dd.ar, _, rfl, by simp [rowT_len], rfl, rfl⟩
    have har : ar ≤ 2 := hea ▸ hDa dd hmem
    have hrow := rowsD_get hdd
    have hok := rowD_ok dd
    have h8 := rowD_len dd
    rw [hre] at hrow hok h8
    refine co_f (p65_1 (in_sub (by omega) (by omega) ?_))
    refine wIdx_rowsO hD (row := .sc (.string ⟨name.toArray⟩) :: .sc (.int .i64 ar) :: rest) (by omega) hrow h8 (by omega) ?_
    have hld8 : ∀ (s : Sto) (K : AV → Prop), K (.agg ((.sc (.string ⟨name.toArray⟩) :: .sc (.int .i64 ar) :: rest).map AV.pv)) → wLd (env R) s (some 8) (.eptr (.sc (.string ⟨name.toArray⟩) :: .sc (.int .i64 ar) :: rest) 0) K := by simp[*,List.take_of_length_le]
    refine hld8 _ _ ?_
    simp only [wNew]
    have eA : ∀ (k : Nat) (b : List AV) (t : List (Nat × Nat)), (⟨(ST bs id l k ++ (m ++ [Z4])) ++ [b], t⟩ : Sto) = ⟨ST bs id l k ++ (m ++ [Z4, b]), t⟩ := fun k b t => by simp
    have eL : (ST bs id l k1 ++ (m ++ [Z4])).length = bs.length + m.length + 1 := by simp [ST_len]; omega
    simp only [eL, eA]
    have hst8 : ∀ K : Sto → Prop, K ⟨ST bs id l k1 ++ (m ++ [Z4, (PV.sc (.string ⟨name.toArray⟩) :: .sc (.int .i64 ar) :: rest).map AV.pv]), ts⟩ → wSt (LFE (env R) 65 0 L.ro L.rt) ⟨ST bs id l k1 ++ (m ++ [Z4, [(SS []), (I64 0), (I64 0), (SS []), (I64 0), (.capped []), (BB false), (.capped [])]]), ts⟩ 8 (.ptr (bs.length + m.length + 1) 0) (.agg ((PV.sc (.string ⟨name.toArray⟩) :: .sc (.int .i64 ar) :: rest).map AV.pv)) K := by
      intro K h
      have hce : cellsOf (.agg ((PV.sc (.string ⟨name.toArray⟩) :: .sc (.int .i64 ar) :: rest).map AV.pv)) = (PV.sc (.string ⟨name.toArray⟩) :: .sc (.int .i64 ar) :: rest).map AV.pv := rfl
      simp only [wSt, loc_get, List.getElem?_cons_succ, List.getElem?_cons_zero, wO, hce, List.length_map]
      refine ⟨⟨h8, by simp[*], by simp[*], hok, .inl (by simp), by omega⟩, ?_⟩
      rw [loc_set]
      obtain ⟨x0, x1, x2, x3, x4, x5, rfl⟩ : ∃ x0 x1 x2 x3 x4 x5, rest = [x0, x1, x2, x3, x4, x5] := by
        rcases rest with _ | ⟨a, _ | ⟨b, _ | ⟨c, _ | ⟨d, _ | ⟨e, _ | ⟨f, _ | ⟨g, r⟩⟩⟩⟩⟩⟩⟩ <;> simp at h6
        simp
      simp_all
    refine hst8 _ ?_
    generalize hDB : (PV.sc (.string ⟨name.toArray⟩) :: .sc (.int .i64 ar) :: rest).map AV.pv = DB
    have hDB0 : DB[0]? = some (SS name) := by rw [← hDB]; rfl
    have hDB1 : DB[1]? = some (I64 ar) := by rw [← hDB]; rfl
    have hDBi : ∀ n, idsLtL n DB = true := by
      intro n
      rw [← hDB]
      clear hDB hld8 hst8 hok h8 hrow hDB0 hDB1
      generalize (PV.sc (.string ⟨name.toArray⟩) :: .sc (.int .i64 ar) :: rest) = R0
      induction R0 with
      | nil => rfl
      | cons p R0 ih => assumption
    have hDBn : DB ≠ [] := by intro e; simp_all
    have alD : ∀ (k : Nat) (b : List AV) (t : List (Nat × Nat)), alive ⟨ST bs id l k ++ (m ++ Z4 :: DB :: [b]), t⟩ (bs.length + m.length + 1) = true := by
      intro k b t
      obtain ⟨c, r, hc⟩ : ∃ c r, DB = c :: r := by
        cases DB with
        | nil => grind
        | cons c r => simp
      simp[*,loc_get]
    have fad0 : ∀ (K : AV → Prop), K (.ptr (bs.length + m.length + 1) 0) → wFad ⟨ST bs id l k1 ++ (m ++ [Z4, DB]), ts⟩ (.ptr (bs.length + m.length + 1) 0) 0 K := by simp_all[loc_get]
    have ld0 : ∀ (K : AV → Prop), K (SS name) → wLd (env R) ⟨ST bs id l k1 ++ (m ++ [Z4, DB]), ts⟩ none (.ptr (bs.length + m.length + 1) 0) K := by simp[*,loc_get]
    refine fad0 _ (ld0 _ ?_)
    refine bd_of (cs := [I64 2, SS name, I64 0, .capped []]) (by simp) ?_
    have eA2 : ∀ (k : Nat) (b : List AV) (t : List (Nat × Nat)), (⟨(ST bs id l k ++ (m ++ [Z4, DB])) ++ [b], t⟩ : Sto) = ⟨ST bs id l k ++ (m ++ [Z4, DB, b]), t⟩ := fun k b t => by simp
    have eL2 : (ST bs id l k1 ++ (m ++ [Z4, DB])).length = bs.length + m.length + 2 := by simp [ST_len]; omega
    simp only [eL2, eA2]
    have hst4 : ∀ K : Sto → Prop, K ⟨ST bs id l k1 ++ (m ++ [Z4, DB, [I64 2, SS name, I64 0, .capped []]]), ts⟩ → wSt (LFE (env R) 65 0 L.ro L.rt) ⟨ST bs id l k1 ++ (m ++ [Z4, DB, Z4]), ts⟩ 4 (.ptr (bs.length + m.length + 2) 0) (.agg [I64 2, SS name, I64 0, .capped []]) K := by simp[*,loc_get,loc_set]
    refine hst4 _ ?_
    have loop : ∀ (j q k2 : Nat) (x : List (Nat × Nat)) (a : AV) (es : List Ty), q + j = ar → k1 ≤ k2 → k2 ≤ l.length → es.length = q → (∀ t ∈ es, Sh0 vars t) → Apd ts.length (ts ++ x) 33 a (rowsT es) →
        P65_2 R 0 L.ro L.rt (.ptr id 0) dv (I64 d) (I64 vars) (.ptr (bs.length + m.length) 0) (.ptr (bs.length + m.length + 1) 0) (.ptr (bs.length + m.length + 2) 0) (I64 q) ⟨ST bs id l k2 ++ (m ++ [Z4, DB, [I64 2, SS name, I64 0, a]]), ts ++ x⟩ (QM rr N Post) := by
      intro j
      induction j with
      | zero =>
        intro q k2 x a es hq hk1' hk2' hes hez ha
        have ho := ha.rowsO
        refine p65_2 ⟨alD _ _ _, ?_⟩
        simp only [wLd, loc_get, List.getElem?_cons_succ, List.getElem?_cons_zero, wO, wPart, Nat.zero_add, hDB1]
        refine in_lss ?_
        have h1 : ¬ ((q : Int) < ar) := by omega
        simp only [h1, decide_false]
        refine co_f (p65_4 ?_)
        have := ty_leaf (R := R) (Post := Post) (rr := rr) (N := N) (k := k2) (ts := ts ++ x) (Z := Z4) (r := [DB, [I64 2, SS name, I64 0, a]]) (L' := LFE (env R) 65 0 L.ro L.rt) hB hm rfl hN hro rfl ho (c := 2) (i := 0) (n := name) (fun y hy => hP _ y k2 x hy (.inr (.inr ⟨dd, hmem, es, by rw [hen], by omega, hez⟩)) (by omega) hk2')
        simpa [wLd, wO, wPart, loc_get] using this
      | succ j ihj =>
        intro q k2 x a es hq hk1' hk2' hes hez ha
        have ho := ha.rowsO
        refine p65_2 ⟨alD _ _ _, ?_⟩
        simp only [wLd, loc_get, List.getElem?_cons_succ, List.getElem?_cons_zero, wO, wPart, Nat.zero_add, hDB1]
        refine in_lss ?_
        have h1 : ((q : Int) < ar) := by omega
        simp only [h1, decide_true]
        refine co_t (p65_3 ?_)
        have hm2 : LocB bs (m ++ [Z4, DB, [I64 2, SS name, I64 0, a]]) := locB_push hm (by
          intro b hb
          simp only [List.mem_cons, List.not_mem_nil, or_false] at hb
          rcases hb with rfl | rfl | rfl
          · rfl
          · simp[*]
          · simp [idsLtL, idsLt, ho.idsLt])
        simp [loc_get, loc_get0, loc_set, loc_set0]
        refine wAri_fit (by omega) (by omega) ?_
        refine wCall_do (iha hm2 hk2' (LFE (env R) 65 0 L.ro L.rt) hro (ts ++ x) (by simp [LFE]; omega)) ?_
        rintro v s1 ⟨t, k3, x2, hv, hqn, hk4, hk5, rfl⟩
        obtain ⟨c1, n1, i1, es1⟩ := t
        obtain ⟨b, rfl, hb⟩ := hv
        simp [wBsl, repl, hb.ok, hb.toPV, loc_get, loc_get0, loc_set, loc_set0]
        have hrow : rowsBy 4 1 [PV.sc (.int .i64 c1), .sc (.string ⟨n1.toArray⟩), .sc (.int .i64 i1), .list (rowsT es1)] = [rowT (.mk c1 n1 i1 es1)] := by rfl
        rw [hrow]
        have ha2 : Apd ts.length (ts ++ (x ++ x2)) 33 a (rowsT es) := by
          rw [← List.append_assoc]
          exact ha.grow
        refine wApp_row ha2 hrt (fun r hr => rowsT_four r hr) (rowT_len _) (by omega) (rowT_ok _) (by simp [rowsT_len]; omega) (by simp [rowsT_len]; omega) ?_
        intro a' x' ha'
        have ho' := ha'.rowsO
        have := g1 2
        simp [loc_get, loc_get0, loc_set, loc_set0, ho'.ok, ho'.cells, ho'.noBlk, this]
        refine ⟨by simp [eqA], ?_, ?_⟩
        · simpa [ApdT.eqA] using ApdT.eqA ha
        refine p65_5 (in_add (by omega) (by omega) ?_)
        have ha3 : Apd ts.length (ts ++ x') 33 a' (rowsT (es ++ [.mk c1 n1 i1 es1])) := by simp[*,rowsT_append,rowsT]
        have := ihj (q + 1) k3 x' a' (es ++ [.mk c1 n1 i1 es1]) (by omega) (by omega) hk5 (by simp[*]) (fun t ht => by
          rcases List.mem_append.1 ht with ht | ht
          · simp[*]
          · rw [List.mem_singleton.1 ht]
            exact hqn) ha3
        grind
    have := loop ar 0 k1 [] (.capped []) [] (by omega) (Nat.le_refl _) hk2 rfl (fun t ht => by cases ht) (.inl (by rfl))
    grind
theorem arg_fin (hB : Base bs id l) {m : List (List AV)} (hm : LocB bs m) {L : Lim} (hro : L.ro ≤ id) {ts : List (Nat × Nat)} {rr : Bool} {N : Nat} (hN : N = bs.length + m.length) {Post : AV → Sto → Prop} {P : Ty → Prop} {k : Nat} (hP : ∀ t v k' x, TRepO t v → P t → k ≤ k' → k' ≤ l.length → Post v ⟨ST bs id l k' ++ m, ts ++ x⟩)
    (k1 : Nat) (x : List (Nat × Nat)) (t : Ty) (v : AV) (hv : TRepO t v) (hb : P t) (h1 : k ≤ k1) (h2 : k1 ≤ l.length) : wSt (LFE (env R) 40 0 L.ro L.rt) ⟨ST bs id l k1 ++ (m ++ [Z4]), ts ++ x⟩ 4 (.ptr (bs.length + m.length) 0) v fun s1 => wLd (env R) s1 (some 4) (.ptr (bs.length + m.length) 0) fun r => QM rr N Post r s1 :=
  tyO_leaf (R := R) (Post := Post) (rr := rr) (N := N) (k := k1) (ts := ts ++ x) (Z := Z4) (r := []) (L' := LFE (env R) 40 0 L.ro L.rt) hB hm rfl hN hro rfl hv (fun y hy => hP t y k1 x hy hb h1 h2)
theorem arg_step (hB : Base bs id l) {dv : AV} {P : Ty → Prop} (e : Int) (he : -1 ≤ e) (he1 : e ≤ 1) (vars : Nat) (hvars : vars ≤ 2) (h0P : ∀ t, Sh0 vars t → P t) (ihn : 0 < e → Gen R bs id l dv 65 e vars P) (iht : 0 < e → Gen R bs id l dv 66 0 0 P) : Gen R bs id l dv 40 e vars P := by
  intro m hm k hk L hro ts hrt
  have hlen := hB.len
  have hlt := hB.lt
  suffices H : ∀ (rr : Bool) (N : Nat) (Post : AV → Sto → Prop), N = bs.length + m.length → (∀ t v k' x, TRepO t v → P t → k ≤ k' → k' ≤ l.length → Post v ⟨ST bs id l k' ++ m, ts ++ x⟩) → P40_0 R 0 L.ro L.rt (.ptr id 0) dv (I64 e) (I64 vars) ⟨ST bs id l k ++ m, ts⟩ (QM rr N Post) from
    m40 (by rfl) (H _ _ _ (by simp [ST_len]) fun t v k' x h1 h2 h3 h4 => ⟨t, k', x, h1, h2, h3, h4, rfl⟩)
  intro rr N Post hN hP
  have hm' := Z4_ids hm
  have fin := @arg_fin bs id l R hB m hm L hro ts rr N hN Post P k hP
  have fin0 : ∀ (k1 : Nat) (t : Ty) (v : AV), TRepO t v → P t → k ≤ k1 → k1 ≤ l.length → wSt (LFE (env R) 40 0 L.ro L.rt) ⟨ST bs id l k1 ++ (m ++ [Z4]), ts⟩ 4 (.ptr (bs.length + m.length) 0) v fun s1 => wLd (env R) s1 (some 4) (.ptr (bs.length + m.length) 0) fun r => QM rr N Post r s1 := by
    intro k1 t v hv hb h1 h2
    have := fin k1 [] t v hv hb h1 h2
    simpa using this
  refine p40_0 ?_
  simp only [wNew, List.append_assoc, List.length_append, ST_len]
  refine wCall_do (next_spec (n := 6) hB hm' hk (by omega) (by omega) _ (by assumption) ts) ?_
  rintro v s1 ⟨r, k1, rfl, hr1, hr2, hk1, hk2, rfl⟩
  have rest : wInt .i64 .leq (I64 e) (I64 0) fun a25 =>
 wCond a25 (
 wLd (env R) ⟨ST bs id l k1 ++ (m ++ [Z4]), ts⟩ none (.gptr 2 0) fun a26 =>
 wCall (env R) (LFE (env R) 40 0 L.ro L.rt) (.func (.func 39) [] []) [(.ptr id 0), (I64 4)] ⟨ST bs id l k1 ++ (m ++ [Z4]), ts⟩ fun a28 s1x8 =>
 wIdx s1x8 1 a26 a28 fun a29 =>
 wLd (env R) s1x8 none a29 fun a30 =>
 wCall (env R) (LFE (env R) 40 0 L.ro L.rt) (.func (.func 10) [] []) [a30, (.capped [])] s1x8 fun a31 s1x9 =>
 wSt (LFE (env R) 40 0 L.ro L.rt) s1x9 4 (.ptr (bs.length + m.length) 0) a31 fun s1x10 =>
(wLd (env R) s1x8 none (.gptr 2 0) fun v => eqA v a26 = true) ∧
 wLd (env R) s1x10 (some 4) (.ptr (bs.length + m.length) 0) fun rx11 =>
 QM rr N Post rx11 s1x10) (
 wInt .i64 .lss (I64 r) (I64 4) fun a34 =>
 wCond a34 (
 wCall (env R) (LFE (env R) 40 0 L.ro L.rt) (.func (.func 65) [] []) [(.ptr id 0), dv, (I64 e), (I64 vars)] ⟨ST bs id l k1 ++ (m ++ [Z4]), ts⟩ fun a39 s1x12 =>
 wSt (LFE (env R) 40 0 L.ro L.rt) s1x12 4 (.ptr (bs.length + m.length) 0) a39 fun s1x13 =>
 wLd (env R) s1x13 (some 4) (.ptr (bs.length + m.length) 0) fun rx14 =>
 QM rr N Post rx14 s1x13) (
 P40_1 R 0 L.ro L.rt (.ptr id 0) dv (I64 e) (.ptr (bs.length + m.length) 0) ⟨ST bs id l k1 ++ (m ++ [Z4]), ts⟩ (QM rr N Post))) := by
    refine in_leq ?_
    by_cases h0 : e ≤ 0
    · rw [decide_eq_true h0]
      refine co_t (ld_glob env_G2 ?_)
      refine wCall_do (next_spec (n := 4) hB hm' hk2 (by omega) (by omega) _ (by assumption) ts) ?_
      rintro v s1 ⟨r2, k2, rfl, hr3, hr4, hk3, hk4, rfl⟩
      obtain ⟨w, hw⟩ : ∃ w, leafW[r2.toNat]? = some w := ⟨_, List.getElem?_eq_getElem (by simp [leafW]; omega)⟩
      refine idx_str hr3 hw (ld_str ?_)
      refine wCall_pure (namedA_spec (.capped [])) ?_
      rintro v rfl
      exact wSt_and (ld_glob env_G2 (eqA_strRows leafW)) (fin0 k2 (.mk 2 w 0 []) _ ⟨_, rfl, by simp [rowsT]; exact .inl (.capped _)⟩ (h0P _ (.inr ⟨w, List.mem_of_getElem? hw, rfl⟩)) (by omega) hk4)
    · rw [decide_eq_false h0]
      refine co_f (in_lss ?_)
      cases b4 : decide (r < 4) with
      | true =>
        refine co_t ?_
        refine wCall_do (ihn (by omega) hm' hk2 (LFE (env R) 40 0 L.ro L.rt) hro ts (by assumption)) ?_
        rintro v s1 ⟨t, k3, x, hv, hb, hk3, hk4, rfl⟩
        exact fin k3 x t v hv hb (by omega) hk4
      | false =>
        refine co_f (p40_1 (in_sub (by omega) (by omega) ?_))
        have e3 : e - 1 = 0 := by omega
        rw [e3]
        refine wCall_do (iht (by omega) hm' hk2 (LFE (env R) 40 0 L.ro L.rt) hro ts (by assumption)) ?_
        rintro v s1 ⟨t, k3, x, hv, hb, hk3, hk4, rfl⟩
        exact fin k3 x t v hv hb (by omega) hk4
  refine in_lss ?_
  cases b2 : decide (r < 2) with
  | false => exact gk_f (by simp) (gk_f (by simp) (pk (co_f rest)))
  | true =>
    refine gk_t (gk_t (in_gtr (pk ?_)))
    by_cases hv0 : vars = 0
    · have b0 : decide ((vars : Int) > 0) = false := by simp [hv0]
      rw [b0]
      exact co_f rest
    · have b0 : decide ((vars : Int) > 0) = true := by simp; omega
      rw [b0]
      refine co_t ?_
      refine wCall_do (next_spec (n := vars) hB hm' hk2 (by omega) (by omega) _ (by assumption) ts) ?_
      rintro v s1 ⟨r2, k2, rfl, hr3, hr4, hk3, hk4, rfl⟩
      refine wCall_pure (var_spec r2) ?_
      rintro v rfl
      obtain ⟨w, rfl⟩ := Int.eq_ofNat_of_zero_le hr3
      exact fin0 k2 (.mk 5 [] w []) _ ⟨_, rfl, by simp [rowsT]; exact .inl (.capped _)⟩ (h0P _ (.inl ⟨w, by omega, rfl⟩)) (by omega) hk4
theorem term_step (hB : Base bs id l) {dv : AV} {P : Ty → Prop} (hl0 : ∀ w ∈ leafW, P (.mk 2 w 0 [])) (ha0 : P (.mk 0 [] 0 [])) (ihn : Gen R bs id l dv 65 0 0 P) : Gen R bs id l dv 66 0 0 P := by
  intro m hm k hk L hro ts hrt
  have hlen := hB.len
  have hlt := hB.lt
  suffices H : ∀ (rr : Bool) (N : Nat) (Post : AV → Sto → Prop), N = bs.length + m.length → (∀ t v k' x, TRepO t v → P t → k ≤ k' → k' ≤ l.length → Post v ⟨ST bs id l k' ++ m, ts ++ x⟩) → P66_0 R 0 L.ro L.rt (.ptr id 0) dv (I64 0) (I64 0) ⟨ST bs id l k ++ m, ts⟩ (QM rr N Post) from
    m66 (by rfl) (H _ _ _ (by simp [ST_len]) fun t v k' x h1 h2 h3 h4 => ⟨t, k', x, h1, h2, h3, h4, rfl⟩)
  intro rr N Post hN hP
  have hm' := Z4_ids hm
  have fin : ∀ (k1 : Nat) (x : List (Nat × Nat)) (t : Ty) (v : AV), TRepO t v → P t → k ≤ k1 → k1 ≤ l.length → wSt (LFE (env R) 66 0 L.ro L.rt) ⟨ST bs id l k1 ++ (m ++ [Z4]), ts ++ x⟩ 4 (.ptr (bs.length + m.length) 0) v fun s1 => wLd (env R) s1 (some 4) (.ptr (bs.length + m.length) 0) fun r => QM rr N Post r s1 :=
    fun k1 x t v hv hb h1 h2 => tyO_leaf (R := R) (Post := Post) (rr := rr) (N := N) (k := k1) (ts := ts ++ x) (Z := Z4) (r := []) (L' := LFE (env R) 66 0 L.ro L.rt) hB hm rfl hN hro rfl hv (fun y hy => hP t y k1 x hy hb h1 h2)
  have fin0 : ∀ (k1 : Nat) (t : Ty) (v : AV), TRepO t v → P t → k ≤ k1 → k1 ≤ l.length → wSt (LFE (env R) 66 0 L.ro L.rt) ⟨ST bs id l k1 ++ (m ++ [Z4]), ts⟩ 4 (.ptr (bs.length + m.length) 0) v fun s1 => wLd (env R) s1 (some 4) (.ptr (bs.length + m.length) 0) fun r => QM rr N Post r s1 := by
    intro k1 t v hv hb h1 h2
    have := fin k1 [] t v hv hb h1 h2
    simpa using this
  refine p66_0 ?_
  simp only [wNew, List.append_assoc, List.length_append, ST_len]
  refine wCall_do (next_spec (n := 14) hB hm' hk (by omega) (by omega) _ (by assumption) ts) ?_
  rintro v s1 ⟨r, k1, rfl, hr1, hr2, hk1, hk2, rfl⟩
  have leaf : ∀ (c : AV), P66_2 R 0 L.ro L.rt (.ptr id 0) dv (I64 0) (I64 0) (.ptr (bs.length + m.length) 0) c (BB true) ⟨ST bs id l k1 ++ (m ++ [Z4]), ts⟩ (QM rr N Post) := by
    intro c
    refine p66_2 (co_t (ld_glob env_G2 ?_))
    refine wCall_do (next_spec (n := 4) hB hm' hk2 (by omega) (by omega) _ (by assumption) ts) ?_
    rintro v s1 ⟨r2, k2, rfl, hr3, hr4, hk3, hk4, rfl⟩
    obtain ⟨w, hw⟩ : ∃ w, leafW[r2.toNat]? = some w := ⟨_, List.getElem?_eq_getElem (by simp [leafW]; omega)⟩
    refine idx_str hr3 hw (ld_str ?_)
    refine wCall_pure (namedA_spec (.capped [])) ?_
    rintro v rfl
    exact wSt_and (ld_glob env_G2 (eqA_strRows leafW)) (fin0 k2 (.mk 2 w 0 []) _ ⟨_, rfl, by simp [rowsT]; exact .inl (.capped _)⟩ (hl0 _ (List.mem_of_getElem? hw)) (by omega) hk4)
  have nam : wCall (env R) (LFE (env R) 66 0 L.ro L.rt) (.func (.func 65) [] []) [(.ptr id 0), dv, (I64 0), (I64 0)] ⟨ST bs id l k1 ++ (m ++ [Z4]), ts⟩ fun a48 s1x0 =>
      wSt (LFE (env R) 66 0 L.ro L.rt) s1x0 4 (.ptr (bs.length + m.length) 0) a48 fun s1x1 => wLd (env R) s1x1 (some 4) (.ptr (bs.length + m.length) 0) fun r => QM rr N Post r s1x1 := by
    refine wCall_do (ihn hm' hk2 (LFE (env R) 66 0 L.ro L.rt) hro ts (by assumption)) ?_
    rintro v s1 ⟨t, k3, x, hv, hb, hk3, hk4, rfl⟩
    exact fin k3 x t v hv hb (by omega) hk4
  have go : ∀ c : Int, 0 ≤ c → c ≤ 5 → P66_1 R 0 L.ro L.rt (.ptr id 0) dv (I64 0) (I64 0) (.ptr (bs.length + m.length) 0) (I64 c) ⟨ST bs id l k1 ++ (m ++ [Z4]), ts⟩ (QM rr N Post) := by
    intro c hc0 hc5
    refine p66_1 (in_eql ?_)
    cases h0 : (c == 0) with
    | true => exact co_t (leaf _)
    | false =>
      refine co_f (in_eql ?_)
      cases h1 : (c == 1) with
      | true => exact leaf _
      | false =>
        refine p66_2 (co_f (in_eql ?_))
        cases h2 : (c == 2) with
        | true =>
          refine co_t (wCall_pure rAny_spec ?_)
          rintro _ rfl
          exact fin0 k1 (.mk 0 [] 0 []) _ ⟨_, rfl, by simp [rowsT]; exact .inl (.capped _)⟩ ha0 hk1 hk2
        | false =>
          refine co_f (in_eql ?_)
          cases h3 : (c == 3) with
          | true => exact co_t (p66_3 (co_t (in_gtr (co_f (p66_4 nam)))))
          | false =>
            refine co_f (in_eql ?_)
            cases h4 : (c == 4) with
            | true => exact p66_3 (co_t (in_gtr (co_f (p66_4 nam))))
            | false =>
              have h5 : (c == 5) = true := by simp at h0 h1 h2 h3 h4 ⊢; omega
              refine p66_3 (co_f (in_eql ?_))
              rw [h5]
              exact co_t (p66_5 (co_t nam))
  refine in_leq (gk_t (gk_t (in_gtr (pk ?_))))
  cases h5 : decide (r > 5) with
  | true => exact co_t (go 0 (by omega) (by omega))
  | false =>
    have := of_decide_eq_false h5
    exact co_f (go r hr1 (by omega))
theorem arg_spec (hB : Base bs id l) {dv : AV} {Dl : List Dc} (hD : RowsO dv (rowsD Dl)) (hDl : Dl.length ≤ 12) (hDa : ∀ d ∈ Dl, d.ar ≤ 2) (vars : Nat) (hvars : vars ≤ 2) : Gen R bs id l dv 40 1 vars (Sh1 Dl vars) := by
  have n1 : Gen R bs id l dv 65 1 vars (Sh1 Dl vars) := named_step hB hD hDl hDa 1 (by omega) vars hvars (arg_step hB 0 (by omega) (by omega) vars hvars (fun _ h => h) (fun h => by omega) (fun h => by omega))
  have n0 : Gen R bs id l dv 65 0 0 (Sh1 Dl 0) := named_step hB hD hDl hDa 0 (by omega) 0 (by omega) (arg_step hB (-1) (by omega) (by omega) 0 (by omega) (fun _ h => h) (fun h => by omega) (fun h => by omega))
  have up0 : ∀ t, Sh0 0 t → Sh0 vars t := by
    rintro t (⟨v, hv, _⟩ | h)
    · omega
    · exact .inr h
  have up : ∀ t, Sh1 Dl 0 t → Sh1 Dl vars t := by
    rintro t (h | h | ⟨d, hd, es, h1, h2, h3⟩)
    · exact .inl (up0 t h)
    · exact .inr (.inl h)
    · exact .inr (.inr ⟨d, hd, es, h1, h2, fun e he => up0 e (h3 e he)⟩)
  have t0 : Gen R bs id l dv 66 0 0 (Sh1 Dl 0) := term_step hB (fun w hw => .inl (.inr ⟨w, hw, rfl⟩)) (.inr (.inl rfl)) n0
  have t0' : Gen R bs id l dv 66 0 0 (Sh1 Dl vars) := by
    intro m hm k hk L hro ts hrt
    obtain ⟨v, s', ⟨t, k', x, h1, h2, h3⟩, h4⟩ := t0 hm hk L hro ts hrt
    exact ⟨v, s', ⟨t, k', x, h1, up t h2, h3⟩, h4⟩
  have a1 : ∀ _ : (0 : Int) < 1, Gen R bs id l dv 65 1 vars (Sh1 Dl vars) := fun _ => @n1
  have a2 : ∀ _ : (0 : Int) < 1, Gen R bs id l dv 66 0 0 (Sh1 Dl vars) := fun _ => @t0'
  exact @arg_step bs id l R hB dv (Sh1 Dl vars) 1 (by omega) (by omega) vars hvars (fun _ h => .inl h) a1 a2
end
end Go.Proofs.YtcmeadgdojfhnaaGreatDoor
/-
  Generated declarations: fields, supertypes.
-/
namespace Go.Proofs.YtcmeadgdojfhnaaGreatDoor
open Go.Tel
abbrev DBl (w : List UInt8) (ar sk : Int) (sn : List UInt8) (a : AV) (c : Bool) (fl : AV) : List AV := [SS w, I64 ar, I64 sk, SS sn, I64 0, a, BB c, fl]
abbrev partW : List UInt8 := [112, 97, 114, 116]
structure XOk (Dl : List Dc) (w : List UInt8) (d : Dc) : Prop where
  nm : d.nm = w
  ar : d.ar ≤ 2
  su : d.su = .mk 0 [] 0 [] ∨ ∃ a ∈ Dl, a.co = false ∧ ∃ es, d.su = .mk 2 a.nm 0 es ∧ es.length = a.ar ∧ ∀ e ∈ es, Sh1 Dl d.ar e
  fs : d.fs = [] ∨ d.co = true ∧ ∃ t, d.fs = [(partW, t)] ∧ Sh1 Dl d.ar t
section
variable {bs : List (List AV)} {id : Nat} {l : Src} {R : Nat → Option (List PV)} {k : Nat} {M : List (List AV)} {ts : List (Nat × Nat)} {j : Nat} {b : List AV}
theorem mget : (ST bs id l k ++ M)[bs.length + j]? = M[j]? := by
  have := get_app (ST bs id l k) M j
  rwa [ST_len] at this
theorem mset (v : List AV) : (ST bs id l k ++ M).set (bs.length + j) v = ST bs id l k ++ M.set j v := by
  have := set_app (ST bs id l k) M j v
  rwa [ST_len] at this
theorem lad (h : M[j]? = some b) (hb : b ≠ []) : alive ⟨ST bs id l k ++ M, ts⟩ (bs.length + j) = true := by
  obtain ⟨c, r, rfl⟩ := List.exists_cons_of_ne_nil hb
  simp only [alive, mget, h]
theorem lfad (h : M[j]? = some b) (hb : b ≠ []) {o d : Nat} {K : AV → Prop} (hK : K (.ptr (bs.length + j) (o + d))) : wFad ⟨ST bs id l k ++ M, ts⟩ (.ptr (bs.length + j) o) d K := ⟨lad h hb, hK⟩
theorem lld (h : M[j]? = some b) {o : Nat} {v : AV} (hb : b[o]? = some v) {K : AV → Prop} (hK : K v) : wLd (env R) ⟨ST bs id l k ++ M, ts⟩ none (.ptr (bs.length + j) o) K := by
  simp only [wLd, mget, h, wO, wPart, hb]
  exact hK
theorem lldn (h : M[j]? = some b) {n : Nat} (hb : b.length = n) {K : AV → Prop} (hK : K (.agg b)) : wLd (env R) ⟨ST bs id l k ++ M, ts⟩ (some n) (.ptr (bs.length + j) 0) K := by
  simp only [wLd, mget, h, wO, wPart, List.drop_zero]
  refine ⟨by omega, ?_⟩
  rw [List.take_of_length_le (by omega)]
  exact hK
theorem lst (h : M[j]? = some b) {o n : Nat} {x : AV} {L' : Lim} (hro : L'.ro ≤ bs.length + j) (hn0 : L'.n0 = 0) (hx : (cellsOf x).length = n) (hb : o + n ≤ b.length) (hok : (cellsOf x).all okCell = true) (hn : n ≠ 0) {K : Sto → Prop}
    (hK : K ⟨ST bs id l k ++ M.set j (setCells b o (cellsOf x)), ts⟩) : wSt L' ⟨ST bs id l k ++ M, ts⟩ n (.ptr (bs.length + j) o) x K := by
  simp only [wSt, mget, h, wO, mset]
  exact ⟨⟨hx, by omega, hro, hok, .inl (by omega), hn⟩, hK⟩
theorem locB_set {m : List (List AV)} (hm : LocB bs m) (j : Nat) {b : List AV} (hb : ∀ n, idsLtL n b = true) : LocB bs (m.set j b) := by
  intro x hx
  simp only [List.length_set]
  rcases List.mem_or_eq_of_mem_set hx with h | h
  · exact hm x h
  · rw [h]; exact hb _
theorem DBl_ids {w : List UInt8} {ar sk : Int} {sn : List UInt8} {a : AV} {c : Bool} {fl : AV} {aa fs : List (List PV)} (ha : RowsO a aa) (hf : RowsO fl fs) (n : Nat) : idsLtL n (DBl w ar sk sn a c fl) = true := by
  simp [idsLtL, idsLt, ha.idsLt, hf.idsLt]
theorem DBl_okc {w : List UInt8} {ar sk : Int} {sn : List UInt8} {a : AV} {c : Bool} {fl : AV} {aa fs : List (List PV)} (ha : RowsO a aa) (hf : RowsO fl fs) : (DBl w ar sk sn a c fl).all okCell = true := by
  have hb : okCell (BB c) = true := by cases c <;> rfl
  simp [okI, okS, hb, ha.ok, hf.ok]
theorem ex_end {x : List (Nat × Nat)} {w : List UInt8} {ar : Nat} {sk : Int} {sn : List UInt8} {a : AV} {c : Bool} {fl : AV} {es : List Ty} {fs : List Fd} (hj : M[j]? = some (DBl w ar sk sn a c fl)) (ha : RowsO a (rowsT es)) (hf : RowsO fl (rowsF fs)) {t1 t5 t6 : AV} {Dl : List Dc}
    (hA : Apd ts.length (ts ++ x) 36 t1 (rowsD Dl)) (hl : Dl.length < 95) {ro rt : Nat} (hrt : rt ≤ ts.length) {QR : AV → Sto → Prop}
    (K : ∀ t1' x', Apd ts.length (ts ++ x') 36 t1' (rowsD (Dl ++ [⟨w, ar, .mk sk sn 0 es, c, fs⟩])) → P20_11 R 0 ro rt (.ptr id 0) t1' t5 t6 ⟨ST bs id l k ++ M, ts ++ x'⟩ QR) :
    P20_8 R 0 ro rt (.ptr id 0) t1 t5 t6 (.ptr (bs.length + j) 0) ⟨ST bs id l k ++ M, ts ++ x⟩ QR := by
  have hlen := rowsD_len Dl
  refine p20_8 (lldn hj rfl (bsl_row (row := rowD ⟨w, ar, .mk sk sn 0 es, c, fs⟩) rfl rfl (by omega) (by omega) (DBl_okc ha hf) (by simp [toPVs, tpP, ha.toPV, hf.toPV, rowD, rowT]) rfl ⟨by decide, ?_⟩))
  refine wApp_row hA hrt (fun r hr => rowsD_row hr) (rowD_len _) (by omega) (rowD_ok _) (by omega) (by omega) fun a' x' h => K a' x' ?_
  rw [rowsD_app]
  exact h
structure Loc (bs m M : List (List AV)) : Prop where
  ok : LocB bs M
  pre : ∃ B, M = m ++ B
theorem Loc.set {bs m M : List (List AV)} (h : Loc bs m M) {j : Nat} (hj : m.length ≤ j) {b : List AV} (hb : ∀ n, idsLtL n b = true) : Loc bs m (M.set j b) := by
  refine ⟨locB_set h.ok j hb, ?_⟩
  obtain ⟨B, rfl⟩ := h.pre
  exact ⟨B.set (j - m.length) b, by rw [List.set_append_right _ _ hj]⟩
theorem Loc.push {bs m M : List (List AV)} (h : Loc bs m M) {b : List AV} (hb : ∀ n, idsLtL n b = true) : Loc bs m (M ++ [b]) := by
  refine ⟨locB_push h.ok (by intro x hx; simp only [List.mem_singleton] at hx; rw [hx]; exact hb _), ?_⟩
  obtain ⟨B, rfl⟩ := h.pre
  exact ⟨B ++ [b], by simp⟩
variable {m : List (List AV)}
theorem ex_fields (hB : Base bs id l) {k : Nat} (hM : Loc bs m M) (hmj : m.length ≤ j) (hk : k ≤ l.length) {x : List (Nat × Nat)} {w : List UInt8} {ar : Nat} {sk : Int} {sn : List UInt8} {a : AV} {c : Bool} {es : List Ty} (hj : M[j]? = some (DBl w ar sk sn a c (.capped []))) (ha : RowsO a (rowsT es))
    {t1 t5 t6 : AV} {Dl : List Dc} (hA : Apd ts.length (ts ++ x) 36 t1 (rowsD Dl)) (hl : Dl.length ≤ 12) (hDa : ∀ d ∈ Dl, d.ar ≤ 2) (har : ar ≤ 2) (hsu : (.mk sk sn 0 es : Ty) = .mk 0 [] 0 [] ∨ ∃ a ∈ Dl, a.co = false ∧ ∃ es', (.mk sk sn 0 es : Ty) = .mk 2 a.nm 0 es' ∧ es'.length = a.ar ∧ ∀ e ∈ es', Sh1 Dl ar e) {ro rt : Nat} (hro : ro ≤ id) (hrt : rt ≤ ts.length) {QR : AV → Sto → Prop}
    (K : ∀ k' M' t1' x' d, k ≤ k' → k' ≤ l.length → Loc bs m M' → XOk Dl w d → Apd ts.length (ts ++ x') 36 t1' (rowsD (Dl ++ [d])) → P20_11 R 0 ro rt (.ptr id 0) t1' t5 t6 ⟨ST bs id l k' ++ M', ts ++ x'⟩ QR) :
    P20_5 R 0 ro rt (.ptr id 0) t1 t5 t6 (.ptr (bs.length + j) 0) ⟨ST bs id l k ++ M, ts ++ x⟩ QR := by
  have hlt := hB.lt
  have hlen := hB.len
  have none_ : ∀ k1, k ≤ k1 → k1 ≤ l.length → P20_8 R 0 ro rt (.ptr id 0) t1 t5 t6 (.ptr (bs.length + j) 0) ⟨ST bs id l k1 ++ M, ts ++ x⟩ QR := fun k1 h1 h2 =>
    ex_end (fs := []) hj ha (.inl (.capped [])) hA (by omega) hrt fun t1' x' h => K k1 M t1' x' _ h1 h2 hM ⟨rfl, har, hsu, .inl rfl⟩ h
  refine p20_5 (lfad hj (by simp) (lld hj (v := BB c) rfl ?_))
  cases c with
  | false => exact gk_f (by simp) (gk_f (by simp) (gk_f (by simp) (pk (co_f (none_ k (Nat.le_refl _) hk)))))
  | true =>
    refine gk_t (gk_t (wCall_do (next_spec (n := 2) hB hM.ok hk (by omega) (by omega) _ (by simpa [LFE] using hro) _) ?_))
    rintro v s1 ⟨r, k1, rfl, hr1, hr2, hk1, hk2, rfl⟩
    refine gk_t (in_eql (pk ?_))
    cases (r == 1) with
    | false => exact co_f (none_ k1 hk1 hk2)
    | true =>
      refine co_t (lfad hj (by simp) (lld hj (v := I64 ar) rfl ?_))
      refine wCall_do (arg_spec (R := R) hB hA.rowsO hl hDa ar har hM.ok hk2 (LFE (env R) 20 0 ro rt) (by simpa [LFE] using hro) (ts ++ x) (by simp [LFE]; omega)) ?_
      rintro v s1 ⟨t, k2, x2, hv, ht, hk3, hk4, rfl⟩
      obtain ⟨c1, n1, i1, es1⟩ := t
      obtain ⟨b, rfl, hb⟩ := hv
      refine bd_of (cs := [SS partW, I64 c1, SS n1, I64 i1, b]) (by simp [fillS, setCells, ceS, ceA, okS, okI, hb.ok]) ?_
      refine bsl_row (row := rowF (partW, .mk c1 n1 i1 es1)) rfl rfl (by omega) (by omega) (by simp [okS, okI, hb.ok]) (by simp [toPVs, tpP, hb.toPV, rowF, rowT]) rfl ?_
      have eq : (ts ++ x) ++ x2 = ts ++ (x ++ x2) := by simp
      refine lfad hj (by simp) (lst hj (by simp [LFE]; omega) (by rfl) (by rfl) (by simp) (by rfl) (by omega) ?_)
      simp only [ceC, setCells]
      rw [eq]
      have hf : RowsO (.capped [rowF (partW, .mk c1 n1 i1 es1)]) (rowsF [(partW, .mk c1 n1 i1 es1)]) := .inl (.capped _)
      have hjl := (List.getElem?_eq_some_iff.1 hj).1
      refine ex_end (w := w) (ar := ar) (sk := sk) (sn := sn) (a := a) (c := true) (fs := [(partW, .mk c1 n1 i1 es1)]) (List.getElem?_set_self hjl) ha hf (by rw [← List.append_assoc]; exact hA.grow) (by omega) hrt fun t1' x' h => ?_
      exact K k2 _ t1' x' _ (by omega) hk4 (hM.set hmj (DBl_ids ha hf)) ⟨rfl, har, hsu, .inr ⟨rfl, _, rfl, ht⟩⟩ h
theorem eqA_ptr0 (a b : Nat) : eqA (.ptr a b) (.ptr a b) = true := by simp [eqA]
theorem ex_super (hB : Base bs id l) (hmj : m.length ≤ j) {w : List UInt8} {ar : Nat} {sn : List UInt8} {c : Bool} {x : List (Nat × Nat)} {j2 : Nat} {AB : List AV} {n : Nat} (hne : j2 ≠ j) (hAB : AB[1]? = some (I64 n)) (hn2 : n ≤ 2)
    {t1 t5 t6 : AV} {Dl : List Dc} (hA : Apd ts.length (ts ++ x) 36 t1 (rowsD Dl)) (hl : Dl.length ≤ 12) (hDa : ∀ d ∈ Dl, d.ar ≤ 2) (har : ar ≤ 2) {ro rt : Nat} (hro : ro ≤ id) (hrt : rt ≤ ts.length) {k0 : Nat} {QR : AV → Sto → Prop}
    (K : ∀ k' M' y a es, k0 ≤ k' → k' ≤ l.length → Loc bs m M' → M'[j]? = some (DBl w ar 2 sn a c (.capped [])) → RowsO a (rowsT es) → es.length = n → (∀ e ∈ es, Sh1 Dl ar e) → P20_5 R 0 ro rt (.ptr id 0) t1 t5 t6 (.ptr (bs.length + j) 0) ⟨ST bs id l k' ++ M', ts ++ (x ++ y)⟩ QR) :
    ∀ (i q k : Nat) (M : List (List AV)) (y : List (Nat × Nat)) (a : AV) (es : List Ty), q + i = n → es.length = q → (∀ e ∈ es, Sh1 Dl ar e) → k0 ≤ k → k ≤ l.length → Loc bs m M → M[j]? = some (DBl w ar 2 sn a c (.capped [])) → M[j2]? = some AB → Apd (ts ++ x).length ((ts ++ x) ++ y) 33 a (rowsT es) →
      P20_10 R 0 ro rt (.ptr id 0) t1 t5 t6 (.ptr (bs.length + j) 0) (.ptr (bs.length + j2) 0) (I64 q) ⟨ST bs id l k ++ M, (ts ++ x) ++ y⟩ QR := by
  have hlt := hB.lt
  have hlen := hB.len
  have hABn : AB ≠ [] := by rintro rfl; simp at hAB
  intro i
  induction i with
  | zero =>
    intro q k M y a es hq hes hsh hk0 hk hM hj hj2 ha
    refine p20_10 (lfad hj2 hABn (lld hj2 hAB (in_lss ?_)))
    rw [decide_eq_false (by omega)]
    refine co_f ?_
    have := K k M y a _ hk0 hk hM hj ha.rowsO (by omega) hsh
    rwa [← List.append_assoc] at this
  | succ i ih =>
    intro q k M y a es hq hes hsh hk0 hk hM hj hj2 ha
    have ho := ha.rowsO
    have hjl := (List.getElem?_eq_some_iff.1 hj).1
    refine p20_10 (lfad hj2 hABn (lld hj2 hAB (in_lss ?_)))
    rw [decide_eq_true (by omega)]
    refine co_t (p20_12 (lfad hj (by simp) (lfad hj (by simp) (lld hj (v := a) rfl (lfad hj (by simp) (lld hj (v := I64 ar) rfl ?_))))))
    refine wCall_do (arg_spec (R := R) hB hA.rowsO hl hDa ar har hM.ok hk (LFE (env R) 20 0 ro rt) (by simpa [LFE] using hro) ((ts ++ x) ++ y) (by simp [LFE]; omega)) ?_
    rintro v s1 ⟨t, k2, x2, hv, ht, hk3, hk4, rfl⟩
    obtain ⟨c1, n1, i1, es1⟩ := t
    obtain ⟨b, rfl, hb⟩ := hv
    refine bsl_row (row := rowT (.mk c1 n1 i1 es1)) rfl rfl (by omega) (by omega) (by simp [okS, okI, hb.ok]) (by simp [toPVs, tpP, hb.toPV, rowT]) (rowT_len _) ⟨by decide, ?_⟩
    have ha2 : Apd (ts ++ x).length ((ts ++ x) ++ (y ++ x2)) 33 a (rowsT es) := by
      rw [← List.append_assoc]
      exact ha.grow
    rw [show ((ts ++ x) ++ y) ++ x2 = (ts ++ x) ++ (y ++ x2) by simp]
    refine wApp_row ha2 (by simp [LFE]; omega) (fun r hr => rowsT_four r hr) (rowT_len _) (by omega) (rowT_ok _) (by simp [rowsT_len]; omega) (by simp [rowsT_len]; omega) ?_
    intro a' y' ha'
    have ho' := ha'.rowsO
    refine lfad hj (by simp) (lfad hj (by simp) (lst hj (by simp [LFE]; omega) (by rfl) (by simp [ho'.cells]) (by simp) (by simp [ho'.cells, ho'.ok]) (by omega) ?_))
    refine ⟨lfad hj (by simp) (eqA_ptr0 _ _), lfad hj (by simp) (eqA_ptr0 _ _), lld hj (v := a) rfl (ApdT.eqA ha), ?_⟩
    refine p20_13 (in_add (by omega) (by omega) ?_)
    simp only [ho'.cells, setCells]
    have ha3 : Apd (ts ++ x).length ((ts ++ x) ++ y') 33 a' (rowsT (es ++ [.mk c1 n1 i1 es1])) := by
      rw [rowsT_append]
      simpa [rowsT] using ha'
    have e : ((q : Int) + 1) = ((q + 1 : Nat) : Int) := by omega
    rw [e]
    exact ih (q + 1) k2 _ y' a' _ (by omega) (by simp; omega) (fun t ht' => by
      rcases List.mem_append.1 ht' with h | h
      · exact hsh t h
      · rw [List.mem_singleton.1 h]; exact ht) (by omega) hk4 (hM.set hmj (DBl_ids ho' (.inl (.capped [])))) (List.getElem?_set_self hjl) (by rw [List.getElem?_set_ne (Ne.symm hne)]; exact hj2) ha3
end
end Go.Proofs.YtcmeadgdojfhnaaGreatDoor
/-
  Generated declarations: the choice of a supertype.
-/
namespace Go.Proofs.YtcmeadgdojfhnaaGreatDoor
open Go.Tel
section
variable {bs : List (List AV)} {id : Nat} {l : Src} {R : Nat → Option (List PV)} {m M : List (List AV)} {ts : List (Nat × Nat)} {j : Nat}
theorem ex_abs {k : Nat} {x : List (Nat × Nat)} {t1 t5 t6 t7 : AV} {Dl : List Dc} (hA : RowsO t1 (rowsD Dl)) (hX : ∃ d ∈ Dl, d.co = false) (hl : Dl.length < 95) {ro rt : Nat} (hrt : rt ≤ ts.length) {QR : AV → Sto → Prop}
    (K : ∀ y t8 sub, (∀ d ∈ sub, d ∈ Dl ∧ d.co = false) → sub ≠ [] → sub.length ≤ Dl.length → RowsO t8 (rowsD sub) → P20_7 R 0 ro rt (.ptr id 0) t1 t5 t6 t7 t8 ⟨ST bs id l k ++ M, (ts ++ x) ++ y⟩ QR) :
    ∀ (i q : Nat) (y : List (Nat × Nat)) (t8 : AV) (sub : List Dc), q + i = Dl.length → (∀ d ∈ sub, d ∈ Dl ∧ d.co = false) → sub.length ≤ q → ((∃ p d, p < q ∧ Dl[p]? = some d ∧ d.co = false) → sub ≠ []) → Apd (ts ++ x).length ((ts ++ x) ++ y) 36 t8 (rowsD sub) →
      P20_4 R 0 ro rt (.ptr id 0) t1 t5 t6 t7 t8 (I64 q) ⟨ST bs id l k ++ M, (ts ++ x) ++ y⟩ QR := by
  have hlen := rowsD_len Dl
  intro i
  induction i with
  | zero =>
    intro q y t8 sub hq hm hs hne ha
    refine p20_4 (len_of (n := Dl.length) (by rw [hA.lenA, hlen]) (in_lss ?_))
    rw [decide_eq_false (by omega)]
    refine co_f (K y t8 sub hm (hne ?_) (by omega) ha.rowsO)
    obtain ⟨d, hd, he⟩ := hX
    obtain ⟨p, hp⟩ := List.mem_iff_getElem?.1 hd
    have := (List.getElem?_eq_some_iff.1 hp).1
    exact ⟨p, d, by omega, hp, he⟩
  | succ i ih =>
    intro q y t8 sub hq hm hs hne ha
    obtain ⟨d, hd⟩ : ∃ d, Dl[q]? = some d := ⟨_, List.getElem?_eq_getElem (by omega)⟩
    have hmem := List.mem_of_getElem? hd
    have hr8 := rowD_len d
    have hc : (rowD d)[6]? = some (.sc (.bool d.co)) := by
      obtain ⟨nm, ar, ⟨k, n, i, ts⟩, co, fs⟩ := d
      rfl
    have hrow' : (rowsD Dl)[((q : Nat) : Int).toNat]? = some (rowD d) := by simpa using rowsD_get hd
    refine p20_4 (len_of (n := Dl.length) (by rw [hA.lenA, hlen]) (in_lss ?_))
    rw [decide_eq_true (by omega)]
    refine co_t (p20_6 (wIdx_rowsO hA (by omega) hrow' hr8 (by omega) (fad_eptr (ld_eptr hc (nt ?_)))))
    have e1 : ((q : Int) + 1) = ((q + 1 : Nat) : Int) := by omega
    cases hco : d.co with
    | true =>
      refine co_f (p20_9 (in_add (by omega) (by omega) ?_))
      rw [e1]
      refine ih (q + 1) y t8 sub (by omega) hm (by omega) (fun ⟨p, r, hp, h1, h2⟩ => hne ⟨p, r, ?_, h1, h2⟩) ha
      by_cases hpq : p = q
      · subst hpq
        rw [hd] at h1
        simp only [Option.some.injEq] at h1
        subst h1
        rw [hco] at h2
        cases h2
      · omega
    | false =>
      refine co_t (wIdx_rowsO hA (by omega) hrow' hr8 (by omega) (ldrow hr8 ?_))
      refine bsl_row (row := rowD d) rfl (by simp [hr8]) (by omega) (by omega) (rowD_ok d) (toPVs_map (rowD d)) hr8 ⟨by decide, ?_⟩
      have hls := rowsD_len sub
      refine wApp_row (k := 8) (bytes := 112) ha (by simp [LFE]; omega) (fun r hr => rowsD_row hr) hr8 (by omega) (rowD_ok d) (by omega) (by omega) fun a' y' h => ?_
      refine p20_9 (in_add (by omega) (by omega) ?_)
      rw [e1]
      refine ih (q + 1) y' a' (sub ++ [d]) (by omega) (fun r hr => ?_) (by simp; omega) (fun _ => by simp) (by rw [rowsD_app]; exact h)
      rcases List.mem_append.1 hr with hr | hr
      · exact hm r hr
      · rw [List.mem_singleton.1 hr]; exact ⟨hmem, hco⟩
theorem ex_pick (hB : Base bs id l) {k : Nat} (hM : Loc bs m M) (hmj : m.length ≤ j) (hk : k ≤ l.length) {x : List (Nat × Nat)} {w : List UInt8} {ar : Nat} {c : Bool} (hj : M[j]? = some (DBl w ar 0 [] (.capped []) c (.capped [])))
    {t1 t5 t6 t8 : AV} {Dl sub : List Dc} (hA : Apd ts.length (ts ++ x) 36 t1 (rowsD Dl)) (hl : Dl.length ≤ 12) (hDa : ∀ d ∈ Dl, d.ar ≤ 2) (har : ar ≤ 2) {ro rt : Nat} (hro : ro ≤ id) (hrt : rt ≤ ts.length) (hs1 : ∀ d ∈ sub, d ∈ Dl ∧ d.co = false) (hs2 : sub ≠ []) (hs3 : sub.length ≤ Dl.length) (h8 : RowsO t8 (rowsD sub)) (y : List (Nat × Nat)) {QR : AV → Sto → Prop}
    (K : ∀ k' M' t1' x' d, k ≤ k' → k' ≤ l.length → Loc bs m M' → XOk Dl w d → Apd ts.length (ts ++ x') 36 t1' (rowsD (Dl ++ [d])) → P20_11 R 0 ro rt (.ptr id 0) t1' t5 t6 ⟨ST bs id l k' ++ M', ts ++ x'⟩ QR) :
    P20_7 R 0 ro rt (.ptr id 0) t1 t5 t6 (.ptr (bs.length + j) 0) t8 ⟨ST bs id l k ++ M, (ts ++ x) ++ y⟩ QR := by
  have hlt := hB.lt
  have hlen := hB.len
  have hsl : 0 < sub.length := List.length_pos_iff.2 hs2
  have hls := rowsD_len sub
  refine p20_7 (len_of (n := sub.length) (by rw [h8.lenA, hls]) ?_)
  refine wCall_do (next_spec (n := sub.length) hB hM.ok hk (by omega) (by omega) _ (by simpa [LFE] using hro) _) ?_
  rintro v s1 ⟨r, k1, rfl, hr1, hr2, hk1, hk2, rfl⟩
  obtain ⟨d, hd⟩ : ∃ d, sub[r.toNat]? = some d := ⟨_, List.getElem?_eq_getElem (by omega)⟩
  obtain ⟨hmem, hco⟩ := hs1 d (List.mem_of_getElem? hd)
  have hr8 := rowD_len d
  refine wIdx_rowsO h8 hr1 (rowsD_get hd) hr8 (by omega) (ldrow hr8 ?_)
  have hn := hDa d hmem
  have hok := rowD_ok d
  generalize hAB : (rowD d).map AV.pv = AB at hok
  have hABl : AB.length = 8 := by rw [← hAB]; simp [hr8]
  have hAB0 : AB[0]? = some (SS d.nm) := by rw [← hAB]; rfl
  have hAB1 : AB[1]? = some (I64 d.ar) := by rw [← hAB]; rfl
  have hABi : ∀ n, idsLtL n AB = true := by
    intro n
    rw [← hAB]
    obtain ⟨es, hes, hed⟩ := DRep.of_row d
    cases hes
    exact hed.ok.2.2.1 n
  have hABn : AB ≠ [] := by rintro rfl; simp at hABl
  simp only [wNew]
  have el : (ST bs id l k1 ++ M).length = bs.length + M.length := by simp [ST_len]
  have e8 : (ST bs id l k1 ++ M) ++ [Z8] = ST bs id l k1 ++ (M ++ [Z8]) := by simp
  rw [el, e8]
  have hz : (M ++ [Z8])[M.length]? = some Z8 := by rw [get_app0]; rfl
  refine lst hz (by simp [LFE]; omega) (by rfl) (by simpa [ceA] using hABl) (by simp) (by simpa [ceA] using hok) (by omega) ?_
  have es : (M ++ [Z8]).set M.length (setCells Z8 0 (cellsOf (.agg AB))) = M ++ [AB] := by
    rw [set_app0]
    simp only [List.set_cons_zero, ceA]
    congr 2
    obtain ⟨a0, a1, a2, a3, a4, a5, a6, a7, rfl⟩ : ∃ a0 a1 a2 a3 a4 a5 a6 a7, AB = [a0, a1, a2, a3, a4, a5, a6, a7] := by
      rcases AB with _ | ⟨a, _ | ⟨b, _ | ⟨c, _ | ⟨d, _ | ⟨e, _ | ⟨f, _ | ⟨g, _ | ⟨h, _ | ⟨i, r⟩⟩⟩⟩⟩⟩⟩⟩⟩ <;> simp at hABl
      exact ⟨_, _, _, _, _, _, _, _, rfl⟩
    simp [setCells]
  rw [es]
  have hjl := (List.getElem?_eq_some_iff.1 hj).1
  have hz2 : (M ++ [AB])[M.length]? = some AB := by rw [get_app0]; rfl
  have hj2 : (M ++ [AB])[j]? = some (DBl w ar 0 [] (.capped []) c (.capped [])) := by rw [List.getElem?_append_left hjl]; exact hj
  refine lfad hz2 hABn (lld hz2 hAB0 ?_)
  refine bd_of (cs := [I64 2, SS d.nm, I64 0, .capped []]) (by simp [fillS, setCells, ceS, ceI, okS, okI]) ?_
  refine lfad hj2 (by simp) (lst hj2 (by simp [LFE]; omega) (by rfl) (by simp [ceA]) (by simp) (by simp [ceA, okS, okI, okC]) (by omega) ?_)
  simp only [ceA, setCells]
  refine ex_super (R := R) (m := m) (j := j) (w := w) (ar := ar) (sn := d.nm) (c := c) (x := x) (j2 := M.length) (AB := AB) (n := d.ar) (k0 := k1) hB hmj (by omega) hAB1 hn hA hl hDa har hro hrt ?_ d.ar 0 k1 _ y (.capped []) [] (by omega) rfl (by simp) (Nat.le_refl _) hk2 ?_ ?_ ?_ (.inl (by simp [rowsT]))
  · intro k' M' y' a es h1 h2 h3 h5 h6' h7 h9
    refine ex_fields hB h3 hmj h2 h5 h6' (by rw [← List.append_assoc]; exact hA.grow) hl hDa har (.inr ⟨d, hmem, hco, es, rfl, h7, h9⟩) hro hrt fun k2 M2 t1' x' d' g1 g2 g3 g4 g5 => K k2 M2 t1' x' d' (by omega) g2 g3 g4 g5
  · refine Loc.set (hM.push hABi) hmj (b := DBl w ar 2 d.nm (.capped []) c (.capped [])) (DBl_ids (.inl (.capped [])) (.inl (.capped [])))
  · exact List.getElem?_set_self (by simp; omega)
  · rw [List.getElem?_set_ne (by omega)]; exact hz2
end
end Go.Proofs.YtcmeadgdojfhnaaGreatDoor
/-
  Generated declarations.
-/
namespace Go.Proofs.YtcmeadgdojfhnaaGreatDoor
open Go.Tel
attribute [local simp] wNew wBox wBoxZ markT wCond wBuild fillS wO setCells wSt wLd wPart LFE wFad alive wInt wStr wGK wGd wPick wExt wLen wSlen wNot wNil okI ceI okB ceB okS ceS okL ceL okC ceC okO ceO okP ceP okG ceG okE ceE okR ceR okF ceF okX ceX okM ceM okN ceN okNf ceNf okNi ceNi ceA roL roC roO leL leC leO tpP tpC tpO clP clC clO clF clA clT clN clL nbP nbC nbO nbN nbL toPVs
theorem QM_rows {rr : Bool} {n : Nat} {Post : AV → Sto → Prop} {a : AV} {rows : List (List PV)} {s : Sto} (ha : RowsO a rows) (hok : ((s.bs.take n).all (idsLtL n)) = true) (h : ∀ a', RowsO a' rows → Post a' ⟨s.bs.take n, s.ts⟩) : QM rr n Post a s := by
  obtain ⟨a', hc, hr⟩ := ha.close s.bs n s.ts.length
  refine ⟨a', _, ?_, h a' hr⟩
  have hnr : newRef rr n a = none := by rcases ha with (rfl | rfl) | ⟨t, rfl⟩ <;> simp [newRef]
  simp [keepA, hok, hnr, hc]
theorem eqAL_Z8 : eqAL Z8 Z8 = true := by kernel_rfl
abbrev XW : List (List UInt8) := [[88, 97], [88, 98], [88, 99], [88, 100]]
abbrev nBox : List UInt8 := [66, 111, 120]
abbrev nInt : List UInt8 := [73, 110, 116]
abbrev nShape : List UInt8 := [83, 104, 97, 112, 101]
abbrev nItem : List UInt8 := [105, 116, 101, 109]
abbrev tAny : Ty := .mk 0 [] 0 []
abbrev tVar (i : Int) : Ty := .mk 5 [] i []
def baseD : List Dc := [⟨nBox, 1, tAny, false, []⟩, ⟨[67, 101, 108, 108], 1, .mk 2 nBox 0 [tVar 0], true, [(nItem, tVar 0)]⟩, ⟨[73, 110, 116, 66, 111, 120], 0, .mk 2 nBox 0 [.mk 2 nInt 0 []], true, [(nItem, .mk 2 nInt 0 [])]⟩, ⟨nShape, 0, tAny, false, []⟩,
  ⟨[68, 111, 116], 0, .mk 2 nShape 0 [], true, []⟩, ⟨[68, 105, 115, 107], 0, .mk 2 nShape 0 [], true, [([114, 97, 100, 105, 117, 115], .mk 2 nInt 0 [])]⟩, ⟨[80, 97, 105, 114], 2, tAny, true, [([102, 105, 114, 115, 116], tVar 0), ([115, 101, 99, 111, 110, 100], tVar 1)]⟩,
  ⟨[78, 101, 115, 116], 1, .mk 2 nBox 0 [.mk 2 nBox 0 [tVar 0]], true, [([105, 110, 110, 101, 114], .mk 2 nBox 0 [tVar 0])]⟩]
def ExtOk (Dl ext : List Dc) : Prop := ∀ (i : Nat) (d : Dc), ext[i]? = some d → ∃ w, XW[i]? = some w ∧ XOk (Dl ++ ext.take i) w d
theorem ExtOk.snoc {Dl ext : List Dc} (h : ExtOk Dl ext) {w : List UInt8} (hw : XW[ext.length]? = some w) {d : Dc} (hd : XOk (Dl ++ ext) w d) : ExtOk Dl (ext ++ [d]) := by
  intro i e he
  by_cases hi : i < ext.length
  · rw [List.getElem?_append_left hi] at he
    obtain ⟨w', h1, h2⟩ := h i e he
    exact ⟨w', h1, by rw [List.take_append_of_le_length (by omega)]; exact h2⟩
  · have hl := (List.getElem?_eq_some_iff.1 he).1
    simp only [List.length_append, List.length_cons, List.length_nil] at hl
    have : i = ext.length := by omega
    subst this
    simp only [List.getElem?_append_right (Nat.le_refl _), Nat.sub_self, List.getElem?_cons_zero, Option.some.injEq] at he
    subst he
    exact ⟨w, hw, by simpa using hd⟩
theorem ExtOk.ar {Dl ext : List Dc} (hD : ∀ d ∈ Dl, d.ar ≤ 2) (h : ExtOk Dl ext) : ∀ d ∈ Dl ++ ext, d.ar ≤ 2 := by
  intro d hd
  rcases List.mem_append.1 hd with hd | hd
  · exact hD d hd
  · obtain ⟨i, hi⟩ := List.mem_iff_getElem?.1 hd
    obtain ⟨w, _, hx⟩ := h i d hi
    exact hx.ar
section
variable {bs : List (List AV)} {id : Nat} {l : Src} {R : Nat → Option (List PV)} {m : List (List AV)} {ts : List (Nat × Nat)}
theorem ex_one (hB : Base bs id l) {k : Nat} {M : List (List AV)} (hM : Loc bs m M) (hk : k ≤ l.length) {x : List (Nat × Nat)}
    {t1 t5 : AV} {q : Nat} {w : List UInt8} (hw : XW[q]? = some w) {Dl : List Dc} (hA : Apd ts.length (ts ++ x) 36 t1 (rowsD Dl)) (hX : ∃ d ∈ Dl, d.co = false) (hl : Dl.length ≤ 12) (hDa : ∀ d ∈ Dl, d.ar ≤ 2) {ro rt : Nat} (hro : ro ≤ id) (hrt : rt ≤ ts.length) {QR : AV → Sto → Prop}
    (K : ∀ k' M' t1' x' d, k ≤ k' → k' ≤ l.length → Loc bs m M' → XOk Dl w d → Apd ts.length (ts ++ x') 36 t1' (rowsD (Dl ++ [d])) → P20_11 R 0 ro rt (.ptr id 0) t1' t5 (I64 q) ⟨ST bs id l k' ++ M', ts ++ x'⟩ QR) :
    P20_2 R 0 ro rt (.ptr id 0) t1 t5 (I64 q) ⟨ST bs id l k ++ M, ts ++ x⟩ QR := by
  have hlt := hB.lt
  have hlen := hB.len
  have hG : (env R).G 0 = some (strRow XW) := rfl
  have h0 : (0 : Int) ≤ (q : Nat) := by omega
  have hw : XW[((q : Nat) : Int).toNat]? = some w := by simpa using hw
  refine p20_2 ?_
  have eS : ∀ k1, ST bs id l k1 ++ M ++ [Z8] = ST bs id l k1 ++ (M ++ [Z8]) := fun k1 => by simp
  have el : (ST bs id l k ++ M).length = bs.length + M.length := by simp [ST_len]
  simp only [eS, el]
  have hM1 : Loc bs m (M ++ [Z8]) := hM.push fun n => by simp [idsLtL, idsLt]
  have hz : (M ++ [Z8])[M.length]? = some Z8 := by rw [get_app0]; rfl
  refine ld_glob hG (idx_str h0 hw (ld_str ?_))
  refine wCall_do (next_spec (n := 3) hB hM1.ok hk (by omega) (by omega) _ (by simpa [LFE] using hro) _) ?_
  rintro v s1 ⟨r, k1, rfl, hr1, hr2, hk1, hk2, rfl⟩
  refine wCall_do (next_spec (n := 2) hB hM1.ok hk2 (by omega) (by omega) _ (by simpa [LFE] using hro) _) ?_
  rintro v s1 ⟨r2, k2, rfl, hr3, hr4, hk3, hk4, rfl⟩
  obtain ⟨ar, rfl⟩ := Int.eq_ofNat_of_zero_le hr1
  refine in_eql ?_
  generalize (r2 == 1) = c
  have hb : okCell (BB c) = true := by cases c <;> rfl
  refine bd_of (cs := DBl w ar 0 [] (.capped []) c (.capped [])) (by simp [fillS, setCells, ceS, ceI, ceB, okS, okI, hb]) ?_
  refine lst hz (by simp [LFE]; omega) (by rfl) (by simp [ceA]) (by simp) (by simp [ceA, okS, okI, okC, hb]) (by omega) ?_
  have es : (M ++ [Z8]).set M.length (setCells Z8 0 (cellsOf (.agg (DBl w ar 0 [] (.capped []) c (.capped []))))) = M ++ [DBl w ar 0 [] (.capped []) c (.capped [])] := by
    rw [set_app0]
    simp [ceA, setCells]
  rw [es]
  have chk : ∀ k1, (wO (idOf (.ptr (bs.length + M.length) 0)) fun id' => wO (⟨ST bs id l k1 ++ (M ++ [Z8]), ts ++ x⟩ : Sto).bs[id']? fun cs' => eqAL cs' Z8 = true) := fun k1 => by
    simp only [idOf, wO, mget, hz]
    exact eqAL_Z8
  refine ⟨ld_glob hG (eqA_strRows XW), ld_glob hG (eqA_strRows XW), idx_str h0 hw (eqA_eptrS w), idx_str h0 hw (eqA_eptrS w), ld_str (eqA_SS w), ld_str (eqA_SS w), chk k, chk k1, chk k2, ?_⟩
  have hM2 : Loc bs m (M ++ [DBl w ar 0 [] (.capped []) c (.capped [])]) := hM.push (DBl_ids (aa := []) (fs := []) (.inl (.capped [])) (.inl (.capped [])))
  have hj : (M ++ [DBl w ar 0 [] (.capped []) c (.capped [])])[M.length]? = some (DBl w ar 0 [] (.capped []) c (.capped [])) := by rw [get_app0]; rfl
  have hmj : m.length ≤ M.length := by
    obtain ⟨B, rfl⟩ := hM.pre
    simp
  refine wCall_do (next_spec (n := 3) hB hM2.ok hk4 (by omega) (by omega) _ (by simpa [LFE] using hro) _) ?_
  rintro v s1 ⟨r3, k3, rfl, hr5, hr6, hk5, hk6, rfl⟩
  refine in_gtr ?_
  cases decide (r3 > 0) with
  | false => exact co_f (ex_fields (es := []) hB hM2 hmj hk6 hj (.inl (.capped [])) hA hl hDa (by omega) (.inl rfl) hro hrt fun k' M' t1' x' row g1 g2 g3 g4 g5 => K k' M' t1' x' row (by omega) g2 g3 g4 g5)
  | true =>
    refine co_t ?_
    have := ex_abs (R := R) (bs := bs) (id := id) (l := l) (M := M ++ [DBl w ar 0 [] (.capped []) c (.capped [])]) (k := k3) (x := x) (t5 := t5) (t6 := I64 q) (t7 := .ptr (bs.length + M.length) 0) (QR := QR) (ro := ro) hA.rowsO hX (by omega) hrt (fun y t8 sub s1 s2 s3 s4 =>
      ex_pick hB hM2 hmj hk6 hj hA hl hDa (by omega) hro hrt s1 s2 s3 s4 y fun k' M' t1' x' row g1 g2 g3 g4 g5 => K k' M' t1' x' row (by omega) g2 g3 g4 g5) Dl.length 0 [] (.capped []) [] (by omega) (fun r h => by cases h) (Nat.le_refl _) (fun ⟨p, r, h, _⟩ => by omega) (.inl rfl)
    simpa using this
theorem ex_loop (hB : Base bs id l) {n : Nat} (hn4 : n ≤ 4) {Dl : List Dc} (hD8 : Dl.length ≤ 8) (hX : ∃ d ∈ Dl, d.co = false) (hDa : ∀ d ∈ Dl, d.ar ≤ 2) {ro rt : Nat} (hro : ro ≤ id) (hrt : rt ≤ ts.length) {QR : AV → Sto → Prop} {k0 : Nat}
    (K : ∀ k' M' t1' x' ext, k0 ≤ k' → k' ≤ l.length → Loc bs m M' → ExtOk Dl ext → ext.length ≤ 4 → RowsO t1' (rowsD (Dl ++ ext)) → QR t1' ⟨ST bs id l k' ++ M', ts ++ x'⟩) :
    ∀ (i q k : Nat) (M : List (List AV)) (x : List (Nat × Nat)) (t1 : AV) (ext : List Dc), q + i = n → k0 ≤ k → k ≤ l.length → Loc bs m M → Apd ts.length (ts ++ x) 36 t1 (rowsD (Dl ++ ext)) → ExtOk Dl ext → ext.length = q →
      P20_1 R 0 ro rt (.ptr id 0) t1 (I64 n) (I64 q) ⟨ST bs id l k ++ M, ts ++ x⟩ QR := by
  intro i
  induction i with
  | zero =>
    intro q k M x t1 ext hq hk0 hk hM hA hE hl
    refine p20_1 (in_lss ?_)
    rw [decide_eq_false (by omega)]
    exact co_f (p20_3 (K k M t1 x ext hk0 hk hM hE (by omega) hA.rowsO))
  | succ i ih =>
    intro q k M x t1 ext hq hk0 hk hM hA hE hl
    refine p20_1 (in_lss ?_)
    rw [decide_eq_true (by omega)]
    obtain ⟨w, hw⟩ : ∃ w, XW[q]? = some w := ⟨_, List.getElem?_eq_getElem (by simp [XW]; omega)⟩
    obtain ⟨d0, hd0, hc0⟩ := hX
    refine co_t (ex_one hB hM hk hw hA ⟨d0, List.mem_append_left _ hd0, hc0⟩ (by simp; omega) (ExtOk.ar hDa hE) hro hrt fun k' M' t1' x' d g1 g2 g3 g4 g5 => ?_)
    refine p20_11 (in_add (by omega) (by omega) ?_)
    have e : ((q : Int) + 1) = ((q + 1 : Nat) : Int) := by omega
    rw [e]
    exact ih (q + 1) k' M' x' t1' (ext ++ [d]) (by omega) (by omega) g2 g3 (by rw [← List.append_assoc]; exact g5) (hE.snoc (by rw [hl]; exact hw) g4) (by simp; omega)
theorem extra_spec (hB : Base bs id l) (hm : LocB bs m) {k : Nat} (hk : k ≤ l.length) {Dl : List Dc} (hD8 : Dl.length ≤ 8) (hX : ∃ d ∈ Dl, d.co = false) (hDa : ∀ d ∈ Dl, d.ar ≤ 2) (L : Lim) (hro : L.ro ≤ id) (hrt : L.rt ≤ ts.length) :
    ∃ v s', (∃ ext k' x, RowsO v (rowsD (Dl ++ ext)) ∧ ExtOk Dl ext ∧ ext.length ≤ 4 ∧ k ≤ k' ∧ k' ≤ l.length ∧ s' = ⟨ST bs id l k' ++ m, ts ++ x⟩) ∧ CallE (env R) L 20 [.ptr id 0, .capped (rowsD Dl)] ⟨ST bs id l k ++ m, ts⟩ v s' := by
  have hlen := hB.len
  refine m20 (by simp [noIdL, noId]) (p20_0 ?_)
  refine wCall_do (next_spec (n := 5) hB hm hk (by omega) (by omega) _ (by simpa [LFE] using hro) ts) ?_
  rintro v s1 ⟨r, k1, rfl, hr1, hr2, hk1, hk2, rfl⟩
  obtain ⟨n, rfl⟩ := Int.eq_ofNat_of_zero_le hr1
  have := ex_loop (R := R) (ts := ts) (m := m) (n := n) (ro := L.ro) (rt := L.rt) (k0 := k1) hB (by omega) hD8 hX hDa hro hrt (QR := QM (L.rr 20) (ST bs id l k ++ m).length fun v s' => ∃ ext k' x, RowsO v (rowsD (Dl ++ ext)) ∧ ExtOk Dl ext ∧ ext.length ≤ 4 ∧ k ≤ k' ∧ k' ≤ l.length ∧ s' = ⟨ST bs id l k' ++ m, ts ++ x⟩)
    (fun k' M' t1' x' ext g1 g2 g3 g4 g5 g6 => by
      obtain ⟨B, rfl⟩ := g3.pre
      have e : (ST bs id l k' ++ (m ++ B)).take (ST bs id l k ++ m).length = ST bs id l k' ++ m := by
        rw [← List.append_assoc, List.take_append_of_le_length (by simp [ST_len]), List.take_of_length_le (by simp [ST_len])]
      refine QM_rows g6 ?_ fun a' ha' => ?_
      · simp only [e]
        have := hB.all hm k'
        simpa [ST_len] using this
      · simp only [e]
        exact ⟨ext, k', x', ha', g4, g5, by omega, g2, rfl⟩) n 0 k1 m [] (.capped (rowsD Dl)) [] (by omega) (Nat.le_refl _) hk2 ⟨hm, [], by simp⟩ (by simpa using .inl rfl) (fun i d h => by simp at h) rfl
  simpa using this
end
theorem base_ev {R : Nat → Option (List PV)} : pureV (env R) 60 22 [] = some (.capped (rowsD baseD)) := by kernel_rfl
theorem base_spec {R : Nat → Option (List PV)} : PureC (env R) 22 [] fun v => v = .capped (rowsD baseD) :=
  ⟨_, rfl, fun L s => CallE.of_some (callN_pure (args' := []) (by kernel_rfl) (by kernel_rfl) (by simp [closeL]) rfl base_ev L s)⟩
theorem decls_spec {R : Nat → Option (List PV)} (l : List Int) (hl : l.length < 2 ^ 50) :
    PureC (env R) 5 [.pv (.list (intRows l))] fun v => ∃ ext, RowsA v (rowsD (baseD ++ ext)) ∧ ExtOk baseD ext ∧ ext.length ≤ 4 := by
  refine e5 (u0 := .pv (.list (intRows l))) (by simp) (p5_0 ?_)
  have hSl := Src.of_length l
  have hB : Base [StB (.of l) 0] 0 (.of l) := ⟨by simp, by simp [StB_ids], by rw [Src.of_length]; omega⟩
  have hST : ∀ k, Tel.ST [StB (.of l) 0] 0 (.of l) k = [StB (.of l) k] := fun k => by simp [Tel.ST]
  have h0 : LocB [StB (.of l) 0] [] := fun b hb => by cases hb
  refine wCall_do (new_spec l _ _) ?_
  rintro v s1 ⟨rfl, rfl⟩
  have e0 : (⟨[] ++ [StB (.of l) 0], []⟩ : Sto) = ⟨Tel.ST [StB (.of l) 0] 0 (.of l) 0 ++ [], []⟩ := by simp [hST]
  show wCall (env R) _ _ _ ⟨[] ++ [StB (.of l) 0], []⟩ _
  rw [e0]
  refine wCall_pure base_spec ?_
  rintro dv rfl
  refine wCall_do (extra_spec hB h0 (k := 0) (by omega) (Dl := baseD) (by decide) ⟨⟨nBox, 1, tAny, false, []⟩, by simp [baseD], rfl⟩ (by simp [baseD]) (LFE (env R) 5 0 0 0) (by simp [LFE]) (ts := []) (by simp [LFE])) ?_
  rintro v s1 ⟨ext, k', x, hv, hE, hl', _, hk', rfl⟩
  obtain ⟨a', h1, h2⟩ := hv.closed (Tel.ST [StB (.of l) 0] 0 (.of l) k' ++ []) 0
  exact ⟨a', h1, ext, h2, hE, hl'⟩
end Go.Proofs.YtcmeadgdojfhnaaGreatDoor
/-
  Generated declarations may be declared.
-/
namespace Go.Proofs.YtcmeadgdojfhnaaGreatDoor
open Go.Tel
def goodN (n : List UInt8) : Bool := isId n && !resv.contains n
theorem isId_len {n : List UInt8} (h : isId n = true) : n.length ≤ 24 := by
  simp only [isId, Bool.and_eq_true, decide_eq_true_eq] at h
  exact h.1.1.2
theorem NT.va {ar : Nat} {t : Ty} (h : NT ar t) : valid t = true := by
  have hv := h.vd
  unfold verdict at hv
  cases h1 : (decide (200 < size t) || decide (12 < depth t)) with
  | true => simp [h1] at hv
  | false =>
    cases h2 : valid t with
    | true => rfl
    | false => simp [h1, h2] at hv
theorem NT.of {ar : Nat} {t : Ty} (hs : size t ≤ 200) (hd : depth t ≤ 12) (hv : valid t = true) (hp : plain t = true) (hf : ∀ w ∈ fvs 0 t, w < ar) (ho : okT t) (hk : vok t = true) (hi : ixs t = true) : NT ar t := by
  refine ⟨?_, hp, hf, ho, hk, hi⟩
  unfold verdict
  rw [decide_eq_false (by omega), decide_eq_false (by omega), hv]
  rfl
theorem nt_any (ar : Nat) : NT ar tAny := ⟨by rfl, by rfl, by simp [tAny, fvs, fvsL], by simp [okT, okTs, okN], by rfl, by rfl⟩
theorem nt_var {ar : Nat} (har : ar ≤ 2) {v : Nat} (hv : v < ar) : NT ar (tVar v) := by
  have : v = 0 ∨ v = 1 := by omega
  rcases this with rfl | rfl
  · exact ⟨by rfl, by rfl, by simp [fvs, fvsL]; omega, by simp [okT, okTs, okN], by rfl, by rfl⟩
  · exact ⟨by rfl, by rfl, by simp [fvs, fvsL]; omega, by simp [okT, okTs, okN], by rfl, by rfl⟩
theorem nt_named {ar : Nat} {n : List UInt8} (hn : goodN n = true) {es : List Ty} (hl : es.length ≤ 2) (he : ∀ e ∈ es, NT ar e ∧ size e ≤ 3 ∧ depth e ≤ 2) : NT ar (.mk 2 n 0 es) := by
  have gen : ∀ l : List Ty, (∀ e ∈ l, NT ar e ∧ size e ≤ 3 ∧ depth e ≤ 2) → sizeL l ≤ l.length * 3 ∧ depthL l ≤ 2 ∧ validL l = true ∧ plainL l = true ∧ (∀ j, ∀ w ∈ fvsL 0 2 j l, w < ar) ∧ okTs l ∧ vokL l = true ∧ ixsL l = true := by
    intro l
    induction l with
    | nil => intro _; exact ⟨by simp [sizeL], by simp [depthL], rfl, rfl, fun j => by simp [fvsL], trivial, rfl, rfl⟩
    | cons e l ih =>
      intro h
      obtain ⟨h1, h2, h3⟩ := h e (by simp)
      obtain ⟨i1, i2, i3, i4, i5, i6, i7, i8⟩ := ih fun t ht => h t (by simp [ht])
      refine ⟨by simp only [sizeL, List.length_cons, Nat.add_mul]; omega, by simp only [depthL]; omega, by rw [validL, h1.va, i3]; rfl, by rw [plainL, h1.pl, i4]; rfl, fun j w hw => ?_, ⟨h1.ok, i6⟩, by rw [vokL, h1.vo, i7]; rfl, by rw [ixsL, h1.ix, i8]; rfl⟩
      have hb : bnd 2 j = 0 := rfl
      simp only [fvsL, hb, List.mem_append] at hw
      rcases hw with hw | hw
      · exact h1.fv w hw
      · exact i5 _ w hw
  obtain ⟨i1, i2, i3, i4, i5, i6, i7, i8⟩ := gen es he
  simp only [goodN, Bool.and_eq_true] at hn
  refine NT.of (by simp only [size]; omega) (by simp only [depth]; omega) ?_ ?_ ?_ ⟨by have := isId_len hn.1; unfold okN; omega, i6⟩ (by rw [vok, i7]; rfl) (by rw [ixs, i8]; rfl)
  · have hs : shape 2 n 0 es = true := by
      unfold shape
      simp only [show ((2 : Int) == 0 || (2 : Int) == 1) = false from rfl, show ((2 : Int) == 2) = true from rfl, cond_false, cond_true]
      rw [hn.1, hn.2, i4, decide_eq_true (by omega)]
      rfl
    rw [valid, i3, root, hs]
    rfl
  · rw [plain, i4]
    simp
  · intro w hw
    have : fvs 0 (.mk 2 n 0 es) = fvsL 0 2 0 es := by simp [fvs]
    rw [this] at hw
    exact i5 0 w hw
theorem good_leaf {w : List UInt8} (h : w ∈ leafW) : goodN w = true := by
  simp only [leafW, List.mem_cons, List.not_mem_nil, or_false] at h
  rcases h with rfl | rfl | rfl | rfl <;> rfl
theorem sh0_nt {ar : Nat} (har : ar ≤ 2) {t : Ty} (h : Sh0 ar t) : NT ar t ∧ size t ≤ 1 ∧ depth t ≤ 1 := by
  rcases h with ⟨v, hv, rfl⟩ | ⟨w, hw, rfl⟩
  · exact ⟨nt_var har hv, by simp [size, sizeL], by simp [depth, depthL]⟩
  · exact ⟨nt_named (good_leaf hw) (by simp) (by simp), by simp [size, sizeL], by simp [depth, depthL]⟩
theorem sh1_nt {Dl : List Dc} (hD : ∀ d ∈ Dl, goodN d.nm = true ∧ d.ar ≤ 2) {ar : Nat} (har : ar ≤ 2) {t : Ty} (h : Sh1 Dl ar t) : NT ar t ∧ size t ≤ 3 ∧ depth t ≤ 2 := by
  rcases h with h | rfl | ⟨d, hd, es, rfl, hl, hs⟩
  · obtain ⟨h1, h2, h3⟩ := sh0_nt har h
    exact ⟨h1, by omega, by omega⟩
  · exact ⟨nt_any ar, by simp [size, sizeL], by simp [depth, depthL]⟩
  · obtain ⟨g1, g2⟩ := hD d hd
    refine ⟨nt_named g1 (by omega) fun e he => ?_, ?_, ?_⟩
    · obtain ⟨h1, h2, h3⟩ := sh0_nt har (hs e he)
      exact ⟨h1, by omega, by omega⟩
    · have := sizeL_le (M := 1) es fun e he => (sh0_nt har (hs e he)).2.1
      simp only [size]
      omega
    · have gen : ∀ l : List Ty, (∀ e ∈ l, depth e ≤ 1) → depthL l ≤ 1 := by
        intro l
        induction l with
        | nil => intro _; simp [depthL]
        | cons e l ih =>
          intro h
          have h1 := h e (by simp)
          have h2 := ih fun t ht => h t (by simp [ht])
          simp only [depthL]
          omega
      have := gen es fun e he => (sh0_nt har (hs e he)).2.2
      simp only [depth]
      omega
structure GOk (Dl : List Dc) (d : Dc) : Prop where
  nm : goodN d.nm = true
  ar : d.ar ≤ 2
  su : d.su = .mk 0 [] 0 [] ∨ ∃ a ∈ Dl, a.co = false ∧ ∃ es, d.su = .mk 2 a.nm 0 es ∧ es.length = a.ar ∧ ∀ e ∈ es, Sh1 Dl d.ar e
  fs : ∀ f ∈ d.fs, isId f.1 = true ∧ Sh1 Dl d.ar f.2
  fd : (d.fs.map (·.1)).Nodup
  fl : d.fs.length ≤ 2
  co : d.co = true ∨ d.fs = []
def Seq (L : List Dc) : Prop := ∀ (i : Nat) (d : Dc), L[i]? = some d → GOk (L.take i) d
theorem XOk.g {Dl : List Dc} {w : List UInt8} (hw : goodN w = true) {d : Dc} (h : XOk Dl w d) : GOk Dl d := by
  refine ⟨by rw [h.nm]; exact hw, h.ar, h.su, ?_, ?_, ?_, ?_⟩
  all_goals rcases h.fs with hf | ⟨hc, t, hf, ht⟩ <;> rw [hf]
  · simp
  · intro f hm
    rw [List.mem_singleton.1 hm]
    exact ⟨rfl, ht⟩
  · simp
  · simp
  · simp
  · simp
  · exact .inr rfl
  · exact .inl hc
theorem seq_ext {L : List Dc} (hL : Seq L) : ∀ (ext : List Dc), ExtOk L ext → Seq (L ++ ext) := by
  intro ext hE i d hd
  by_cases hi : i < L.length
  · rw [List.getElem?_append_left hi] at hd
    rw [List.take_append_of_le_length (by omega)]
    exact hL i d hd
  · rw [List.getElem?_append_right (by omega)] at hd
    obtain ⟨w, hw, hx⟩ := hE (i - L.length) d hd
    have : (L ++ ext).take i = L ++ ext.take (i - L.length) := by rw [List.take_append, List.take_of_length_le (by omega)]
    rw [this]
    have hg : goodN w = true := by
      have hm := List.mem_of_getElem? hw
      simp only [XW, List.mem_cons, List.not_mem_nil, or_false] at hm
      rcases hm with rfl | rfl | rfl | rfl <;> rfl
    exact hx.g hg
theorem seq_base : Seq baseD := by
  have v0 : ∀ (Dl : List Dc) (ar : Nat), 0 < ar → Sh1 Dl ar (tVar 0) := fun Dl ar h => .inl (.inl ⟨0, h, rfl⟩)
  have int : ∀ (Dl : List Dc) (ar : Nat), Sh1 Dl ar (.mk 2 nInt 0 []) := fun Dl ar => .inl (.inr ⟨nInt, by simp [leafW], rfl⟩)
  have bx : ∀ (Dl : List Dc) (ar : Nat), 0 < ar → Sh1 (⟨nBox, 1, tAny, false, []⟩ :: Dl) ar (.mk 2 nBox 0 [tVar 0]) := fun Dl ar h => .inr (.inr ⟨_, List.mem_cons_self, [tVar 0], rfl, rfl, fun e he => by rw [List.mem_singleton.1 he]; exact .inl ⟨0, h, rfl⟩⟩)
  intro i d hd
  have hi := (List.getElem?_eq_some_iff.1 hd).1
  simp only [baseD, List.length_cons, List.length_nil] at hi
  have : i = 0 ∨ i = 1 ∨ i = 2 ∨ i = 3 ∨ i = 4 ∨ i = 5 ∨ i = 6 ∨ i = 7 := by omega
  rcases this with rfl | rfl | rfl | rfl | rfl | rfl | rfl | rfl <;> simp only [baseD, List.getElem?_cons_zero, List.getElem?_cons_succ, Option.some.injEq] at hd <;> subst hd
  · exact ⟨rfl, by simp, .inl rfl, by simp, by simp, by simp, .inr rfl⟩
  · exact ⟨rfl, by simp, .inr ⟨_, List.mem_cons_self, rfl, [tVar 0], rfl, rfl, fun e he => by rw [List.mem_singleton.1 he]; exact v0 _ _ (by simp)⟩, fun f hf => by rw [List.mem_singleton.1 hf]; exact ⟨rfl, v0 _ _ (by simp)⟩, by simp, by simp, .inl rfl⟩
  · exact ⟨rfl, by simp, .inr ⟨_, List.mem_cons_self, rfl, [.mk 2 nInt 0 []], rfl, rfl, fun e he => by rw [List.mem_singleton.1 he]; exact int _ _⟩, fun f hf => by rw [List.mem_singleton.1 hf]; exact ⟨rfl, int _ _⟩, by simp, by simp, .inl rfl⟩
  · exact ⟨rfl, by simp, .inl rfl, by simp, by simp, by simp, .inr rfl⟩
  · exact ⟨rfl, by simp, .inr ⟨⟨nShape, 0, tAny, false, []⟩, by simp [baseD], rfl, [], rfl, rfl, by simp⟩, by simp, by simp, by simp, .inl rfl⟩
  · exact ⟨rfl, by simp, .inr ⟨⟨nShape, 0, tAny, false, []⟩, by simp [baseD], rfl, [], rfl, rfl, by simp⟩, fun f hf => by rw [List.mem_singleton.1 hf]; exact ⟨rfl, int _ _⟩, by simp, by simp, .inl rfl⟩
  · refine ⟨rfl, by simp, .inl rfl, fun f hf => ?_, by simp, by simp, .inl rfl⟩
    simp only [List.mem_cons, List.not_mem_nil, or_false] at hf
    rcases hf with rfl | rfl
    · exact ⟨rfl, v0 _ _ (by simp)⟩
    · exact ⟨rfl, .inl (.inl ⟨1, by simp, rfl⟩)⟩
  · exact ⟨rfl, by simp, .inr ⟨_, List.mem_cons_self, rfl, [.mk 2 nBox 0 [tVar 0]], rfl, rfl, fun e he => by rw [List.mem_singleton.1 he]; exact bx _ _ (by simp)⟩, fun f hf => by rw [List.mem_singleton.1 hf]; exact ⟨rfl, bx _ _ (by simp)⟩, by simp, by simp, .inl rfl⟩
theorem Seq.good {L : List Dc} (h : Seq L) : ∀ d ∈ L, goodN d.nm = true ∧ d.ar ≤ 2 := by
  intro d hd
  obtain ⟨i, hi⟩ := List.mem_iff_getElem?.1 hd
  exact ⟨(h i d hi).nm, (h i d hi).ar⟩
theorem kn_sh0 {Ds : List Dc} (hB : ∀ w ∈ leafW, ∃ (q : Nat) (d : Dc), Ds[q]? = some d ∧ d.nm = w ∧ d.ar = 0) {ar : Nat} {t : Ty} (h : Sh0 ar t) : kn Ds t := by
  rcases h with ⟨v, hv, rfl⟩ | ⟨w, hw, rfl⟩
  · rw [kn]
    exact ⟨fun h => (by cases h), trivial⟩
  · rw [kn]
    obtain ⟨q, d, h1, h2, h3⟩ := hB w hw
    exact ⟨fun _ => ⟨q, d, h1, h2, h3⟩, trivial⟩
theorem knL_of {Ds : List Dc} : ∀ {l : List Ty}, (∀ t ∈ l, kn Ds t) → knL Ds l
  | [], _ => by rw [knL]; trivial
  | t :: l, h => by rw [knL]; exact ⟨h t (by simp), knL_of fun u hu => h u (by simp [hu])⟩
theorem kn_sh1 {Ds Dl : List Dc} (hB : ∀ w ∈ leafW, ∃ (q : Nat) (d : Dc), Ds[q]? = some d ∧ d.nm = w ∧ d.ar = 0) (hD : ∀ d ∈ Dl, ∃ q : Nat, Ds[q]? = some d) {ar : Nat} {t : Ty} (h : Sh1 Dl ar t) : kn Ds t := by
  rcases h with h | rfl | ⟨d, hd, es, rfl, hl, hs⟩
  · exact kn_sh0 hB h
  · rw [kn]
    exact ⟨fun h => (by cases h), trivial⟩
  · rw [kn]
    obtain ⟨q, hq⟩ := hD d hd
    exact ⟨fun _ => ⟨q, d, hq, rfl, hl.symm⟩, knL_of fun e he => kn_sh0 hB (hs e he)⟩
section
variable {R : RT}
theorem idOk {n : List UInt8} (h : isId n = true) : IdOk R n := by
  have hl := isId_len h
  have h1 := isIdent_spec (R := R) (l := n) (by omega)
  have h2 := rident_spec (R := R) (l := n) (by omega)
  rw [h] at h1 h2
  exact ⟨h1, h2⟩
theorem nameOk {n : List UInt8} (h : goodN n = true) : NameOk R n := by
  simp only [goodN, Bool.and_eq_true] at h
  have hr : resv.contains n = false := by simpa using h.2
  have h1 := containsS_spec (R := R) (l := hresv) (w := n) (y := .pv (.list (strRows hresv))) (.list _) (by decide)
  have h2 := keyword_spec (R := R) (l := n)
  have e : hresv.contains n = false := hr
  rw [e] at h1
  rw [hr] at h2
  exact { toIdOk := idOk h.1, re := h1, kw := h2 }
theorem builtIn_leaf (l : List Dc) : ∀ w ∈ leafW, ∃ (q : Nat) (d : Dc), (builtIn ++ l)[q]? = some d ∧ d.nm = w ∧ d.ar = 0 := by
  intro w hw
  simp only [leafW, List.mem_cons, List.not_mem_nil, or_false] at hw
  rcases hw with rfl | rfl | rfl | rfl
  · exact ⟨0, _, rfl, rfl, rfl⟩
  · exact ⟨1, _, rfl, rfl, rfl⟩
  · exact ⟨2, _, rfl, rfl, rfl⟩
  · exact ⟨3, _, rfl, rfl, rfl⟩
theorem mem_at {l : List Dc} : ∀ d ∈ l, ∃ q : Nat, (builtIn ++ l)[q]? = some d ∧ 4 ≤ q ∧ q < 4 + l.length := by
  intro d hd
  obtain ⟨i, hi⟩ := List.mem_iff_getElem?.1 hd
  have := (List.getElem?_eq_some_iff.1 hi).1
  refine ⟨4 + i, ?_, by omega, by omega⟩
  rw [List.getElem?_append_right (by simp [builtIn])]
  simpa [builtIn] using hi
theorem seq_dok {L : List Dc} (hL : Seq L) (hn : ((builtIn ++ L).map (·.nm)).Nodup) : AllOk R L := by
  intro i d hd
  have hg := hL i d hd
  have hgood := hL.good
  have hsub : ∀ a ∈ L.take i, goodN a.nm = true ∧ a.ar ≤ 2 := fun a ha => hgood a (List.mem_of_mem_take ha)
  have hB := builtIn_leaf (L.take i)
  have hM : ∀ a ∈ L.take i, ∃ q : Nat, (builtIn ++ L.take i)[q]? = some a := fun a ha => by
    obtain ⟨q, h1, _⟩ := mem_at a ha
    exact ⟨q, h1⟩
  have hsu : NT d.ar d.su ∧ kn (builtIn ++ L.take i) d.su := by
    rcases hg.su with h | ⟨a, ha, hco, es, h, hl, hs⟩
    · rw [h]
      refine ⟨nt_any _, ?_⟩
      rw [kn]
      exact ⟨fun h => (by cases h), trivial⟩
    · rw [h]
      refine ⟨nt_named (hsub a ha).1 (by have := (hsub a ha).2; omega) fun e he => sh1_nt hsub hg.ar (hs e he), ?_⟩
      rw [kn]
      obtain ⟨q, hq⟩ := hM a ha
      exact ⟨fun _ => ⟨q, a, hq, rfl, hl.symm⟩, knL_of fun e he => kn_sh1 hB hM (hs e he)⟩
  have hnil : ∀ a ∈ builtIn ++ L, a.nm ≠ [] := by
    intro a ha he
    have hga : goodN a.nm = true := by
      rcases List.mem_append.1 ha with h | h
      · simp only [builtIn, List.mem_cons, List.not_mem_nil, or_false] at h
        rcases h with rfl | rfl | rfl | rfl <;> rfl
      · exact (hgood a h).1
    rw [he] at hga
    cases hga
  refine ⟨⟨nameOk hg.nm, hg.ar, hsu.1, ?_, fun f hf => ⟨idOk (hg.fs f hf).1, (sh1_nt hsub hg.ar (hg.fs f hf).2).1⟩, hg.fd, hg.fl, hg.co⟩, ?_, hsu.2, fun f hf => kn_app d _ (kn_sh1 hB hM (hg.fs f hf).2), ?_, ?_⟩
  · rcases hg.su with h | ⟨a, _, _, es, h, _⟩
    · exact .inl h
    · exact .inr ⟨_, _, h⟩
  · intro hm
    obtain ⟨a, ha, hna⟩ := List.mem_map.1 hm
    have e : builtIn ++ L = (builtIn ++ L.take i) ++ d :: L.drop (i + 1) := by
      rw [List.append_assoc, ← drop_cons hd, List.take_append_drop]
    rw [e, List.map_append, List.nodup_append] at hn
    exact hn.2.2 d.nm (List.mem_map.2 ⟨a, ha, hna⟩) d.nm (by simp) rfl
  · intro n ts h
    rcases hg.su with h' | ⟨a, ha, hco, es, h', _⟩
    · rw [h'] at h
      simp at h
    · rw [h'] at h
      simp only [Ty.mk.injEq] at h
      obtain ⟨q, hq⟩ := hM a ha
      exact ⟨q, a, hq, h.2.1, hco⟩
  · intro hm
    obtain ⟨a, ha, hna⟩ := List.mem_map.1 hm
    refine hnil a ?_ hna
    rcases List.mem_append.1 ha with h | h
    · rcases List.mem_append.1 h with h | h
      · exact List.mem_append_left _ h
      · exact List.mem_append_right _ (List.mem_of_mem_take h)
    · rw [List.mem_singleton.1 h]
      exact List.mem_append_right _ (List.mem_of_getElem? hd)
theorem seq_ok {L : List Dc} (hL : Seq L) (hn : ((builtIn ++ L).map (·.nm)).Nodup) (hl : L.length ≤ 12) : DsOk (builtIn ++ L) := by
  refine ⟨?_, by simp [builtIn]; omega, (seq_dok (R := fun _ => none) hL hn).sm, ?_⟩
  · intro q e hq
    by_cases h4 : q < 4
    · left
      rw [List.getElem?_append_left (by simpa [builtIn] using h4)] at hq
      have hm := List.mem_of_getElem? hq
      simp only [builtIn, List.mem_cons, List.not_mem_nil, or_false] at hm
      rcases hm with rfl | rfl | rfl | rfl <;> rfl
    · rw [List.getElem?_append_right (by simp [builtIn]; omega)] at hq
      simp only [builtIn, List.length_cons, List.length_nil] at hq
      have hg := hL _ e hq
      rcases hg.su with h | ⟨a, ha, hco, es, h, hle, hs⟩
      · exact .inl h
      · right
        obtain ⟨i, hi⟩ := List.mem_iff_getElem?.1 ha
        have hil := (List.getElem?_eq_some_iff.1 hi).1
        rw [List.length_take] at hil
        rw [List.getElem?_take] at hi
        have hi' : L[i]? = some a := by
          split at hi
          · exact hi
          · cases hi
        have hsub : ∀ a ∈ L.take (q - 4), goodN a.nm = true ∧ a.ar ≤ 2 := fun a ha => hL.good a (List.mem_of_mem_take ha)
        refine ⟨a.nm, es, 4 + i, a, h, ?_, rfl, by omega, hle.symm, fun t ht => (sh1_nt hsub hg.ar (hs t ht)).2.1, vokL_of fun t ht => (sh1_nt hsub hg.ar (hs t ht)).1.vo⟩
        rw [List.getElem?_append_right (by simp [builtIn])]
        simpa [builtIn] using hi'
  · intro d hd
    rcases List.mem_append.1 hd with h | h
    · simp only [builtIn, List.mem_cons, List.not_mem_nil, or_false] at h
      rcases h with rfl | rfl | rfl | rfl <;> simp
    · exact (hL.good d h).2
end
end Go.Proofs.YtcmeadgdojfhnaaGreatDoor
