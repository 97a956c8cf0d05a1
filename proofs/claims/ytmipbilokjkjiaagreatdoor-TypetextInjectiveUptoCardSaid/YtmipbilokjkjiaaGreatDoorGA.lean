/-
  Generated terms: the ends.
-/
import Derived.Test.YtmipbilokjkjiaaGreatDoorTE
import Derived.Test.YtmipbilokjkjiaaGreatDoorW7
import Derived.Test.YtmipbilokjkjiaaGreatDoorFB
set_option linter.unusedSimpArgs false
set_option linter.unusedVariables false
namespace Go.Proofs.YtmipbilokjkjiaaGreatDoor
open Go.Tel
attribute [local simp] wNew wBox wBoxZ markT wCond wBuild fillS wO setCells wSt wLd wPart LFE wFad alive wInt wStr wGK wGd wPick wExt wLen wSlen wNot wNil okI ceI okB ceB okS ceS okL ceL okC ceC okO ceO okP ceP okG ceG okE ceE okR ceR okF ceF okX ceX okM ceM okN ceN okNf ceNf okNi ceNi ceA roL roC roO leL leC leO tpP tpC tpO clP clC clO clF clA clT clN clL nbP nbC nbO nbN nbL toPVs
def TRepO (v : Ty) (x : AV) : Prop := match v with
  | .mk k n i ts => ∃ a, x = .agg [I64 k, SS n, I64 i, a] ∧ RowsO a (rowsT ts)
theorem TRepO.closed {v : Ty} {x : AV} (h : TRepO v x) : ∃ x', close [] 0 0 x = some x' ∧ TRep v x' ∧ close [] 0 0 x' = some x' := by
  obtain ⟨k, n, i, ts⟩ := v
  obtain ⟨a, rfl, ha⟩ := h
  obtain ⟨a', h1, h2⟩ := ha.closed [] 0
  exact ⟨.agg [I64 k, SS n, I64 i, a'], by simp [h1], ⟨a', rfl, h2⟩, by simp [h2.close]⟩
def TyB (B : Nat) (t : Ty) : Prop := okT t ∧ smallV t = true ∧ size t ≤ B
theorem TyB.mono {B C : Nat} {t : Ty} (h : TyB B t) (hl : B ≤ C) : TyB C t := ⟨h.1, h.2.1, Nat.le_trans h.2.2 hl⟩
theorem TyB.leaf {B : Nat} {k i : Int} {n : List UInt8} (hn : n.length < 2 ^ 60) (hi : i < 100) (hB : 0 < B) : TyB B (.mk k n i []) := by
  refine ⟨?_, ?_, ?_⟩
  · simp only [okT, okTs]
    exact ⟨hn, trivial⟩
  · simp [smallV, smallVs, hi]
  · simp only [size, sizeL]
    omega
def TysB (B : Nat) (l : List Ty) : Prop := okTs l ∧ smallVs l = true ∧ sizeL l ≤ B
theorem TysB.nil {B : Nat} : TysB B [] := by simp [TysB, okTs, smallVs, sizeL]
theorem TysB.cons {B C D : Nat} {t : Ty} {l : List Ty} (h : TyB B t) (h' : TysB C l) (hl : B + C ≤ D) : TysB D (t :: l) := by
  obtain ⟨a1, a2, a3⟩ := h
  obtain ⟨b1, b2, b3⟩ := h'
  refine ⟨⟨a1, b1⟩, ?_, ?_⟩
  · simp [smallVs, a2, b2]
  · simp only [sizeL]; omega
theorem TysB.snoc : ∀ {l : List Ty} {B C D : Nat} {t : Ty}, TysB C l → TyB B t → B + C ≤ D → TysB D (l ++ [t])
  | [], B, C, D, t, _, h, hl => TysB.cons h TysB.nil (C := 0) (by omega)
  | u :: l, B, C, D, t, h', h, hl => by
    obtain ⟨b1, b2, b3⟩ := h'
    simp only [okTs] at b1
    simp only [smallVs, Bool.and_eq_true] at b2
    simp only [sizeL] at b3
    have := TysB.snoc (C := sizeL l) (D := B + sizeL l) ⟨b1.2, b2.2, Nat.le_refl _⟩ h (Nat.le_refl _)
    exact TysB.cons (B := size u) ⟨b1.1, b2.1, Nat.le_refl _⟩ this (by omega)
theorem TyB.node {B : Nat} {k i : Int} {n : List UInt8} {l : List Ty} (hn : n.length < 2 ^ 60) (hi : i < 100) (h : TysB B l) : TyB (B + 1) (.mk k n i l) := by
  obtain ⟨b1, b2, b3⟩ := h
  refine ⟨?_, ?_, ?_⟩
  · simp only [okT]
    exact ⟨hn, b1⟩
  · simp [smallV, b2, hi]
  · simp only [size]
    omega
theorem rowsT_append (l m : List Ty) : rowsT (l ++ m) = rowsT l ++ rowsT m := by simp [rowsT_eq]
theorem rowT_ok (v : Ty) : ((rowT v).map AV.pv).all okCell = true := by cases v; simp [rowT, okI, okS, okL]
theorem ApdT.eqA {lo : Nat} {ts : List (Nat × Nat)} {k : Nat} {a : AV} {es : List Ty} (h : Apd lo ts k a (rowsT es)) : Tel.eqA a a = true := by
  rcases h with rfl | ⟨t, rfl, _⟩
  · simp [Tel.eqA, eqPLL_rows]
  · simp [Tel.eqA, eqPLL_rows]
section
variable {bs : List (List AV)} {id : Nat} {l : Src}
theorem QM_ty {rr : Bool} {N : Nat} (hB : Base bs id l) {m r : List (List AV)} (hm : LocB bs m) {k : Nat} {ts : List (Nat × Nat)} {Post : AV → Sto → Prop} (hN : N = bs.length + m.length) {c i : Int} {n : List UInt8} {es : List Ty} {a : AV} (ha : RowsO a (rowsT es))
    (h : ∀ x, TRepO (.mk c n i es) x → Post x ⟨ST bs id l k ++ m, ts⟩) : QM rr N Post (.agg [I64 c, SS n, I64 i, a]) ⟨ST bs id l k ++ (m ++ r), ts⟩ := by
  subst hN
  have e : (ST bs id l k ++ (m ++ r)).take (bs.length + m.length) = ST bs id l k ++ m := by
    rw [← List.append_assoc, List.take_append_of_le_length (by simp [ST_len]), List.take_of_length_le (by simp [ST_len])]
  obtain ⟨a', h1, h2⟩ := ha.close (ST bs id l k ++ (m ++ r)) (bs.length + m.length) ts.length
  refine QM_agg (ds := [I64 c, SS n, I64 i, a']) ?_ (by simp [h1]) ?_
  · simp only [e]
    exact hB.all hm k
  · simp only [e]
    exact h _ ⟨a', rfl, h2⟩
variable {R : Nat → Option (List PV)}
theorem ty_leaf (hB : Base bs id l) {m r : List (List AV)} (hm : LocB bs m) {k : Nat} {ts : List (Nat × Nat)} {Post : AV → Sto → Prop} {rr : Bool} {N : Nat} {L' : Lim} {Z : List AV} (hZ : Z.length = 4) (hN : N = bs.length + m.length) (hro : L'.ro ≤ id) (hn0 : L'.n0 = 0) {c i : Int} {n : List UInt8} {es : List Ty} {a : AV} (ha : RowsO a (rowsT es))
    (h : ∀ x, TRepO (.mk c n i es) x → Post x ⟨ST bs id l k ++ m, ts⟩) :
    wSt L' ⟨ST bs id l k ++ (m ++ Z :: r), ts⟩ 4 (.ptr (bs.length + m.length) 0) (.agg [I64 c, SS n, I64 i, a]) fun s1 => wLd (env R) s1 (some 4) (.ptr (bs.length + m.length) 0) fun r => QM rr N Post r s1 := by
  have hlt := hB.lt
  obtain ⟨z0, z1, z2, z3, rfl⟩ : ∃ z0 z1 z2 z3, Z = [z0, z1, z2, z3] := by
    rcases Z with _ | ⟨a, _ | ⟨b, _ | ⟨c, _ | ⟨d, _ | ⟨e, l⟩⟩⟩⟩⟩ <;> simp at hZ
    exact ⟨_, _, _, _, rfl⟩
  simp [loc_get0, loc_set0, show L'.ro ≤ bs.length + m.length by omega, hn0, ha.ok, ha.noBlk]
  exact QM_ty hB hm hN ha h
theorem tyO_leaf (hB : Base bs id l) {m r : List (List AV)} (hm : LocB bs m) {k : Nat} {ts : List (Nat × Nat)} {Post : AV → Sto → Prop} {rr : Bool} {N : Nat} {L' : Lim} {Z : List AV} (hZ : Z.length = 4) (hN : N = bs.length + m.length) (hro : L'.ro ≤ id) (hn0 : L'.n0 = 0) {t : Ty} {v : AV} (hv : TRepO t v)
    (h : ∀ x, TRepO t x → Post x ⟨ST bs id l k ++ m, ts⟩) :
    wSt L' ⟨ST bs id l k ++ (m ++ Z :: r), ts⟩ 4 (.ptr (bs.length + m.length) 0) v fun s1 => wLd (env R) s1 (some 4) (.ptr (bs.length + m.length) 0) fun r => QM rr N Post r s1 := by
  obtain ⟨c, n, i, es⟩ := t
  obtain ⟨a, rfl, ha⟩ := hv
  exact ty_leaf hB hm hZ hN hro hn0 ha h
theorem namedA_spec {n : List UInt8} {a : AV} {rows : List (List PV)} (ha : RowsA a rows) : PureC (env R) 36 [SS n, a] fun r => r = .agg [I64 2, SS n, I64 0, a] := by
  refine e36 (u0 := SS n) (u1 := a) (by simp [ha.close]) (p36_0 ?_)
  simp [QP, QI, ha.ok, ha.cells, ha.close]
theorem unionA_spec {a : AV} {rows : List (List PV)} (ha : RowsA a rows) : PureC (env R) 49 [a] fun r => r = .agg [I64 4, SS [], I64 0, a] := by
  refine e49 (u0 := a) (by simp [ha.close]) (p49_0 ?_)
  simp [QP, QI, ha.ok, ha.cells, ha.close]
end
def DeclRow (r : List PV) : Prop := ∃ (name : List UInt8) (n : Nat) (rest : List PV), r = .sc (.string ⟨name.toArray⟩) :: .sc (.int .i64 n) :: rest ∧ rest.length = 6 ∧ n ≤ 2 ∧ name.length < 2 ^ 50 ∧ (r.map AV.pv).all okCell = true
structure Decls (v : AV) (rows : List (List PV)) : Prop where
  rep : RowsO v rows
  row : ∀ r ∈ rows, DeclRow r
  len : rows.length < 100
end Go.Proofs.YtmipbilokjkjiaaGreatDoor
/-
  Generated terms: AnyTerm.
-/
namespace Go.Proofs.YtmipbilokjkjiaaGreatDoor
open Go.Tel
attribute [local simp] wNew wBox wBoxZ markT wCond wBuild fillS wO setCells wSt wLd wPart LFE wFad alive wInt wStr wGK wGd wPick wExt wLen wSlen wNot wNil okI ceI okB ceB okS ceS okL ceL okC ceC okO ceO okP ceP okG ceG okE ceE okR ceR okF ceF okX ceX okM ceM okN ceN okNf ceNf okNi ceNi ceA roL roC roO leL leC leO tpP tpC tpO clP clC clO clF clA clT clN clL nbP nbC nbO nbN nbL toPVs
end Go.Proofs.YtmipbilokjkjiaaGreatDoor
/-
  Generated terms: term, named, arg.
-/
namespace Go.Proofs.YtmipbilokjkjiaaGreatDoor
open Go.Tel
attribute [local simp] wNew wBox wBoxZ markT wCond wBuild fillS wO setCells wSt wLd wPart LFE wFad alive wInt wStr wGK wGd wPick wExt wLen wSlen wNot wNil okI ceI okB ceB okS ceS okL ceL okC ceC okO ceO okP ceP okG ceG okE ceE okR ceR okF ceF okX ceX okM ceM okN ceN okNf ceNf okNi ceNi ceA roL roC roO leL leC leO tpP tpC tpO clP clC clO clF clA clT clN clL nbP nbC nbO nbN nbL toPVs
section
variable {bs : List (List AV)} {id : Nat} {l : Src} {R : Nat → Option (List PV)}
def GenT (R : Nat → Option (List PV)) (bs : List (List AV)) (id : Nat) (l : Src) (dv : AV) (f : FuncId) (d : Int) (rank : Nat) (μ : Nat) : Prop := ∀ {m : List (List AV)}, LocB bs m → ∀ {k : Nat}, k ≤ l.length → ∀ (vars : Nat), (vars : Int) + d ≤ 90 → (l.length - k) * 100 + rank < μ → ∀ (L : Lim), L.ro ≤ id → ∀ (ts : List (Nat × Nat)), L.rt ≤ ts.length →
    ∃ v s', (∃ t k' x, TRepO t v ∧ TyB (8 * (k' - k) + 1) t ∧ k ≤ k' ∧ k' ≤ l.length ∧ s' = ⟨ST bs id l k' ++ m, ts ++ x⟩) ∧ CallE (env R) L f [.ptr id 0, dv, I64 d, I64 vars] ⟨ST bs id l k ++ m, ts⟩ v s'
abbrev Z4 : List AV := [I64 0, SS [], I64 0, .capped []]
theorem Z4_ids {m : List (List AV)} (hm : LocB bs m) : LocB bs (m ++ [Z4]) := locB_push hm (by simp [idsLtL, idsLt])
theorem decl_get {dv : AV} {rows : List (List PV)} (hd : Decls dv rows) {r : Int} (h0 : 0 ≤ r) (h1 : r < rows.length) : ∃ row, rows[r.toNat]? = some row ∧ DeclRow row ∧ row.length = 8 := by
  obtain ⟨row, hr⟩ : ∃ row, rows[r.toNat]? = some row := ⟨_, List.getElem?_eq_getElem (by omega)⟩
  have h := hd.row row (List.mem_of_getElem? hr)
  refine ⟨row, hr, h, ?_⟩
  obtain ⟨name, n, rest, rfl, h6, _⟩ := h
  simp [h6]
theorem leaf_name {W : List (List UInt8)} (hW : (env R).G 4 = some (strRow W)) (h4 : W.length = 4) (sW : Short W) {r : Int} (h0 : 0 ≤ r) (h1 : r < 4) : ∃ w, W[r.toNat]? = some w ∧ w.length < 2 ^ 60 := by
  obtain ⟨w, hw⟩ : ∃ w, W[r.toNat]? = some w := ⟨_, List.getElem?_eq_getElem (by omega)⟩
  exact ⟨w, hw, sW.1 w (List.mem_of_getElem? hw)⟩
theorem named_step (hB : Base bs id l) {W : List (List UInt8)} (hW : (env R).G 4 = some (strRow W)) (h4 : W.length = 4) (sW : Short W) {dv : AV} {rows : List (List PV)} (hD : Decls dv rows) (μ : Nat)
    (iha : ∀ e : Int, -1 ≤ e → e ≤ 20 → GenT R bs id l dv 51 e (3 * (e + 1).toNat) μ) (d : Nat) (hd : d ≤ 20) : GenT R bs id l dv 48 d (3 * d + 1) (μ + 1) := by
  intro m hm k hk vars hvars hμ L hro ts hrt
  have hlen := hB.len
  have hlt := hB.lt
  suffices H : ∀ (rr : Bool) (N : Nat) (Post : AV → Sto → Prop), N = bs.length + m.length → (∀ t v k' x, TRepO t v → TyB (8 * (k' - k) + 1) t → k ≤ k' → k' ≤ l.length → Post v ⟨ST bs id l k' ++ m, ts ++ x⟩) → P48_0 R 0 L.ro L.rt (.ptr id 0) dv (I64 d) (I64 vars) ⟨ST bs id l k ++ m, ts⟩ (QM rr N Post) from
    m48 (by simp [noIdL, noId]) (H _ _ _ (by simp [ST_len]) fun t v k' x h1 h2 h3 h4 => ⟨t, k', x, h1, h2, h3, h4, rfl⟩)
  intro rr N Post hN hP
  have hrl := hD.len
  have g1 : ∀ n, L.ro ≤ bs.length + m.length + n := fun n => by omega
  refine p48_0 ?_
  simp only [wNew, List.append_assoc, List.length_append, ST_len]
  have hlenD : ∀ (s : Sto) (K : AV → Prop), K (I64 rows.length) → wLen s dv K := by
    intro s K h
    simp only [wLen, hD.rep.lenA, wO]
    exact h
  refine hlenD _ _ (in_add (by omega) (by omega) ?_)
  refine wCall_do (next_spec2 (n := (rows.length : Int) + 4) hB (Z4_ids hm) hk (by omega) (by omega) _ (by simpa [LFE] using hro) ts) ?_
  rintro v s1 ⟨r, k1, rfl, hr1, hr2, hk1, hk2, hk3, rfl⟩
  refine in_lss ?_
  by_cases hr : r < 4
  · have b4 : decide (r < 4) = true := by simpa using hr
    rw [b4]
    obtain ⟨w, hw, hwl⟩ := leaf_name hW h4 sW hr1 hr
    refine co_t (ld_glob hW (idx_str hr1 hw (ld_str ?_)))
    refine wCall_pure (namedA_spec (.capped [])) ?_
    rintro v rfl
    exact ty_leaf (R := R) (Post := Post) (rr := rr) (N := N) (k := k1) (ts := ts) (Z := Z4) (r := []) (es := []) (a := .capped []) (c := 2) (i := 0) (n := w) (L' := LFE (env R) 48 0 L.ro L.rt) hB hm rfl hN hro rfl (by simp [rowsT]; exact .inl (.capped _)) (fun x hx => by
      have := hP _ x k1 [] hx (TyB.leaf hwl (by omega) (by omega)) hk1 hk2
      simpa using this)
  · have b4 : decide (r < 4) = false := by simpa using hr
    rw [b4]
    have hkk : k < k1 := hk3 (by omega)
    obtain ⟨row, hrow, ⟨name, ar, rest, rfl, h6, har, hnl, hok⟩, h8⟩ := decl_get hD (r := r - 4) (by omega) (by omega)
    refine co_f (p48_1 (in_sub (by omega) (by omega) ?_))
    refine wIdx_rowsO hD.rep (row := .sc (.string ⟨name.toArray⟩) :: .sc (.int .i64 ar) :: rest) (by omega) hrow h8 (by omega) ?_
    have hld8 : ∀ (s : Sto) (K : AV → Prop), K (.agg ((.sc (.string ⟨name.toArray⟩) :: .sc (.int .i64 ar) :: rest).map AV.pv)) → wLd (env R) s (some 8) (.eptr (.sc (.string ⟨name.toArray⟩) :: .sc (.int .i64 ar) :: rest) 0) K := by
      intro s K h
      simp only [wLd, wPart, List.length_map, h8, List.drop_zero]
      refine ⟨by omega, ?_⟩
      rw [List.take_of_length_le (by simp [h6])]
      exact h
    refine hld8 _ _ ?_
    simp only [wNew]
    have eA : ∀ (k : Nat) (b : List AV) (t : List (Nat × Nat)), (⟨(ST bs id l k ++ (m ++ [Z4])) ++ [b], t⟩ : Sto) = ⟨ST bs id l k ++ (m ++ [Z4, b]), t⟩ := fun k b t => by simp
    have eL : (ST bs id l k1 ++ (m ++ [Z4])).length = bs.length + m.length + 1 := by simp [ST_len]; omega
    simp only [eL, eA]
    have hst8 : ∀ K : Sto → Prop, K ⟨ST bs id l k1 ++ (m ++ [Z4, (PV.sc (.string ⟨name.toArray⟩) :: .sc (.int .i64 ar) :: rest).map AV.pv]), ts⟩ → wSt (LFE (env R) 48 0 L.ro L.rt) ⟨ST bs id l k1 ++ (m ++ [Z4, [(SS []), (I64 0), (I64 0), (SS []), (I64 0), (.capped []), (BB false), (.capped [])]]), ts⟩ 8 (.ptr (bs.length + m.length + 1) 0) (.agg ((PV.sc (.string ⟨name.toArray⟩) :: .sc (.int .i64 ar) :: rest).map AV.pv)) K := by
      intro K h
      have hce : cellsOf (.agg ((PV.sc (.string ⟨name.toArray⟩) :: .sc (.int .i64 ar) :: rest).map AV.pv)) = (PV.sc (.string ⟨name.toArray⟩) :: .sc (.int .i64 ar) :: rest).map AV.pv := rfl
      simp only [wSt, loc_get, List.getElem?_cons_succ, List.getElem?_cons_zero, wO, hce, List.length_map]
      refine ⟨⟨h8, by rw [h8]; simp, by have := g1 1; simp [LFE]; omega, hok, .inl (by simp [LFE]), by omega⟩, ?_⟩
      rw [loc_set]
      obtain ⟨x0, x1, x2, x3, x4, x5, rfl⟩ : ∃ x0 x1 x2 x3 x4 x5, rest = [x0, x1, x2, x3, x4, x5] := by
        rcases rest with _ | ⟨a, _ | ⟨b, _ | ⟨c, _ | ⟨d, _ | ⟨e, _ | ⟨f, _ | ⟨g, r⟩⟩⟩⟩⟩⟩⟩ <;> simp at h6
        exact ⟨_, _, _, _, _, _, rfl⟩
      simpa [setCells] using h
    refine hst8 _ ?_
    generalize hDB : (PV.sc (.string ⟨name.toArray⟩) :: .sc (.int .i64 ar) :: rest).map AV.pv = DB
    have hDB0 : DB[0]? = some (SS name) := by rw [← hDB]; rfl
    have hDB1 : DB[1]? = some (I64 ar) := by rw [← hDB]; rfl
    have hDBi : ∀ n, idsLtL n DB = true := by
      intro n
      rw [← hDB]
      clear hDB hld8 hst8 hok h8 hrow hDB0 hDB1
      generalize (PV.sc (.string ⟨name.toArray⟩) :: .sc (.int .i64 ar) :: rest) = R0
      induction R0 with
      | nil => rfl
      | cons p R0 ih => simpa [idsLtL, idsLt] using ih
    have hDBn : DB ≠ [] := by intro e; rw [e] at hDB0; simp at hDB0
    have alD : ∀ (k : Nat) (b : List AV) (t : List (Nat × Nat)), alive ⟨ST bs id l k ++ (m ++ Z4 :: DB :: [b]), t⟩ (bs.length + m.length + 1) = true := by
      intro k b t
      obtain ⟨c, r, hc⟩ : ∃ c r, DB = c :: r := by
        cases DB with
        | nil => exact absurd rfl hDBn
        | cons c r => exact ⟨c, r, rfl⟩
      simp only [alive, loc_get, List.getElem?_cons_succ, List.getElem?_cons_zero, hc]
    have fad0 : ∀ (K : AV → Prop), K (.ptr (bs.length + m.length + 1) 0) → wFad ⟨ST bs id l k1 ++ (m ++ [Z4, DB]), ts⟩ (.ptr (bs.length + m.length + 1) 0) 0 K := by
      intro K h
      obtain ⟨c, r, hc⟩ : ∃ c r, DB = c :: r := by
        cases DB with
        | nil => exact absurd rfl hDBn
        | cons c r => exact ⟨c, r, rfl⟩
      refine ⟨?_, h⟩
      simp only [alive, loc_get, List.getElem?_cons_succ, List.getElem?_cons_zero, hc]
    have ld0 : ∀ (K : AV → Prop), K (SS name) → wLd (env R) ⟨ST bs id l k1 ++ (m ++ [Z4, DB]), ts⟩ none (.ptr (bs.length + m.length + 1) 0) K := by
      intro K h
      simp only [wLd, loc_get, List.getElem?_cons_succ, List.getElem?_cons_zero, wO, wPart, hDB0]
      exact h
    refine fad0 _ (ld0 _ ?_)
    refine bd_of (cs := [I64 2, SS name, I64 0, .capped []]) (by simp) ?_
    have eA2 : ∀ (k : Nat) (b : List AV) (t : List (Nat × Nat)), (⟨(ST bs id l k ++ (m ++ [Z4, DB])) ++ [b], t⟩ : Sto) = ⟨ST bs id l k ++ (m ++ [Z4, DB, b]), t⟩ := fun k b t => by simp
    have eL2 : (ST bs id l k1 ++ (m ++ [Z4, DB])).length = bs.length + m.length + 2 := by simp [ST_len]; omega
    simp only [eL2, eA2]
    have hst4 : ∀ K : Sto → Prop, K ⟨ST bs id l k1 ++ (m ++ [Z4, DB, [I64 2, SS name, I64 0, .capped []]]), ts⟩ → wSt (LFE (env R) 48 0 L.ro L.rt) ⟨ST bs id l k1 ++ (m ++ [Z4, DB, Z4]), ts⟩ 4 (.ptr (bs.length + m.length + 2) 0) (.agg [I64 2, SS name, I64 0, .capped []]) K := by
      intro K h
      have := g1 2
      simp [loc_get, loc_set, this]
      exact h
    refine hst4 _ ?_
    have loop : ∀ (j q k2 : Nat) (x : List (Nat × Nat)) (a : AV) (es : List Ty), q + j = ar → k1 ≤ k2 → k2 ≤ l.length → es.length = q → TysB (8 * (k2 - k1) + q) es → Apd ts.length (ts ++ x) 25 a (rowsT es) →
        P48_2 R 0 L.ro L.rt (.ptr id 0) dv (I64 d) (I64 vars) (.ptr (bs.length + m.length) 0) (.ptr (bs.length + m.length + 1) 0) (.ptr (bs.length + m.length + 2) 0) (I64 q) ⟨ST bs id l k2 ++ (m ++ [Z4, DB, [I64 2, SS name, I64 0, a]]), ts ++ x⟩ (QM rr N Post) := by
      intro j
      induction j with
      | zero =>
        intro q k2 x a es hq hk1' hk2' hes hqs ha
        have ho := ha.rowsO
        refine p48_2 ⟨alD _ _ _, ?_⟩
        simp only [wLd, loc_get, List.getElem?_cons_succ, List.getElem?_cons_zero, wO, wPart, Nat.zero_add, hDB1]
        refine in_lss ?_
        have h1 : ¬ ((q : Int) < ar) := by omega
        simp only [h1, decide_false]
        refine co_f (p48_4 ?_)
        have := ty_leaf (R := R) (Post := Post) (rr := rr) (N := N) (k := k2) (ts := ts ++ x) (Z := Z4) (r := [DB, [I64 2, SS name, I64 0, a]]) (L' := LFE (env R) 48 0 L.ro L.rt) hB hm rfl hN hro rfl ho (c := 2) (i := 0) (n := name) (fun y hy => hP _ y k2 x hy ((TyB.node (by omega) (by omega) hqs).mono (by omega)) (by omega) hk2')
        simpa [wLd, wO, wPart, loc_get] using this
      | succ j ihj =>
        intro q k2 x a es hq hk1' hk2' hes hqs ha
        have ho := ha.rowsO
        refine p48_2 ⟨alD _ _ _, ?_⟩
        simp only [wLd, loc_get, List.getElem?_cons_succ, List.getElem?_cons_zero, wO, wPart, Nat.zero_add, hDB1]
        refine in_lss ?_
        have h1 : ((q : Int) < ar) := by omega
        simp only [h1, decide_true]
        refine co_t (p48_3 ?_)
        have hm2 : LocB bs (m ++ [Z4, DB, [I64 2, SS name, I64 0, a]]) := locB_push hm (by
          intro b hb
          simp only [List.mem_cons, List.not_mem_nil, or_false] at hb
          rcases hb with rfl | rfl | rfl
          · simp [idsLtL, idsLt]
          · exact hDBi _
          · simp [idsLtL, idsLt, ho.idsLt])
        simp [loc_get, loc_get0, loc_set, loc_set0]
        refine wAri_fit (by omega) (by omega) ?_
        refine wCall_do (iha ((d : Int) - 1) (by omega) (by omega) hm2 hk2' vars (by omega) (by
          have : (l.length - k2) * 100 ≤ (l.length - k1) * 100 := Nat.mul_le_mul_right _ (by omega)
          have : (l.length - k1 + 1) * 100 ≤ (l.length - k) * 100 := Nat.mul_le_mul_right _ (by omega)
          omega) (LFE (env R) 48 0 L.ro L.rt) hro (ts ++ x) (by simp [LFE]; omega)) ?_
        rintro v s1 ⟨t, k3, x2, hv, hqn, hk4, hk5, rfl⟩
        obtain ⟨c1, n1, i1, es1⟩ := t
        obtain ⟨b, rfl, hb⟩ := hv
        simp [wBsl, repl, hb.ok, hb.toPV, loc_get, loc_get0, loc_set, loc_set0]
        have hrow : rowsBy 4 1 [PV.sc (.int .i64 c1), .sc (.string ⟨n1.toArray⟩), .sc (.int .i64 i1), .list (rowsT es1)] = [rowT (.mk c1 n1 i1 es1)] := by simp [rowsBy, rowT]
        rw [hrow]
        have ha2 : Apd ts.length (ts ++ (x ++ x2)) 25 a (rowsT es) := by
          rw [← List.append_assoc]
          exact ha.grow
        refine wApp_row ha2 hrt (fun r hr => rowsT_four r hr) (rowT_len _) (by omega) (rowT_ok _) (by simp [rowsT_len]; omega) (by simp [rowsT_len]; omega) ?_
        intro a' x' ha'
        have ho' := ha'.rowsO
        have := g1 2
        simp [loc_get, loc_get0, loc_set, loc_set0, ho'.ok, ho'.cells, ho'.noBlk, this]
        refine ⟨by simp [eqA], ?_, ?_⟩
        · simpa [ApdT.eqA] using ApdT.eqA ha
        refine p48_5 (in_add (by omega) (by omega) ?_)
        have ha3 : Apd ts.length (ts ++ x') 25 a' (rowsT (es ++ [.mk c1 n1 i1 es1])) := by
          rw [rowsT_append]
          simpa [rowsT] using ha'
        have := ihj (q + 1) k3 x' a' (es ++ [.mk c1 n1 i1 es1]) (by omega) (by omega) hk5 (by simp; omega) (TysB.snoc hqs hqn (by omega)) ha3
        simpa using this
    have := loop ar 0 k1 [] (.capped []) [] (by omega) (Nat.le_refl _) hk2 rfl TysB.nil (.inl (by simp [rowsT]))
    simpa using this
end
end Go.Proofs.YtmipbilokjkjiaaGreatDoor
