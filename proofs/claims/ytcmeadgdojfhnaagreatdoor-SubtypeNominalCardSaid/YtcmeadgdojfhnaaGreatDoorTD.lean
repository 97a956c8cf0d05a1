/-
  Supertype.
-/
import Derived.Test.YtcmeadgdojfhnaaGreatDoorTC
import Derived.Test.YtcmeadgdojfhnaaGreatDoorW4
import Derived.Test.YtcmeadgdojfhnaaGreatDoorW1
set_option linter.unusedSimpArgs false
set_option linter.unusedVariables false
namespace Go.Proofs.YtcmeadgdojfhnaaGreatDoor
open Go.Tel
mutual
theorem size_inst {es : List Ty} {M : Nat} (hM : 1 ≤ M) (he : ∀ e ∈ es, size e ≤ M) : ∀ (t : Ty) (u : Nat), size (instT es u t) ≤ size t * M
  | .mk k n i ts, u => by
    have hz : 1 ≤ size (.mk k n i ts) * M := Nat.one_le_iff_ne_zero.2 (Nat.mul_ne_zero (by have := size_pos (.mk k n i ts); omega) (by omega))
    have hz2 : M ≤ size (.mk k n i ts) * M := Nat.le_mul_of_pos_left _ (size_pos _)
    rw [instT]
    cases hk : (k == 5) with
    | true =>
      simp only [cond_true]
      cases hd : decide ((u : Int) ≤ i) with
      | true =>
        simp only [cond_true]
        cases hq : es[(i - u).toNat]? with
        | none => simp only [Option.getD_none, size, sizeL] at hz ⊢; omega
        | some e =>
          have := he e (List.mem_of_getElem? hq)
          simp only [Option.getD_some]
          omega
      | false => simp only [cond_false, size, sizeL] at hz ⊢; omega
    | false =>
      have := sizeL_inst hM he ts u k 0
      simp only [cond_false, size, Nat.add_mul, Nat.one_mul] at this ⊢
      omega
theorem sizeL_inst {es : List Ty} {M : Nat} (hM : 1 ≤ M) (he : ∀ e ∈ es, size e ≤ M) : ∀ (l : List Ty) (u : Nat) (k : Int) (j : Nat), sizeL (instL es u k j l) ≤ sizeL l * M
  | [], _, _, _ => by simp [instL, sizeL]
  | t :: l, u, k, j => by
    have h1 := size_inst hM he t (u + bnd k j)
    have h2 := sizeL_inst hM he l u k (j + 1)
    simp only [instL, sizeL, Nat.add_mul]
    omega
end
mutual
theorem vok_inst {es : List Ty} (he : ∀ e ∈ es, vok e = true) : ∀ (t : Ty) (u : Nat), vok t = true → vok (instT es u t) = true
  | .mk k n i ts, u, h => by
    have h' := h
    rw [vok] at h
    rw [instT]
    cases hk : (k == 5) with
    | true =>
      have : k = 5 := by simpa using hk
      subst this
      simp only [beq_self_eq_true, Bool.not_true, Bool.false_or, Bool.and_eq_true, List.isEmpty_iff] at h
      have hts := h.1.1.1
      subst hts
      simp only [cond_true]
      cases hd : decide ((u : Int) ≤ i) with
      | true =>
        simp only [cond_true]
        cases hq : es[(i - u).toNat]? with
        | none => exact h'
        | some e => exact he e (List.mem_of_getElem? hq)
      | false => exact h'
    | false =>
      simp only [Bool.and_eq_true] at h
      rw [cond_false, vok, hk, vokL_inst he ts u k 0 h.2]
      rfl
theorem vokL_inst {es : List Ty} (he : ∀ e ∈ es, vok e = true) : ∀ (l : List Ty) (u : Nat) (k : Int) (j : Nat), vokL l = true → vokL (instL es u k j l) = true
  | [], _, _, _, _ => rfl
  | t :: l, u, k, j, h => by
    simp only [vokL, Bool.and_eq_true] at h
    rw [instL, vokL, vok_inst he t _ h.1, vokL_inst he l u k _ h.2]
    rfl
end
theorem vokL_mem : ∀ {l : List Ty} {t : Ty}, vokL l = true → t ∈ l → vok t = true
  | a :: l, t, h, ht => by
    simp only [vokL, Bool.and_eq_true] at h
    rcases List.mem_cons.1 ht with rfl | ht
    · exact h.1
    · exact vokL_mem h.2 ht
theorem vokL_of : ∀ {l : List Ty}, (∀ t ∈ l, vok t = true) → vokL l = true
  | [], _ => rfl
  | a :: l, h => by
    simp only [vokL, Bool.and_eq_true]
    exact ⟨h a (by simp), vokL_of fun t ht => h t (by simp [ht])⟩
theorem instL_mem {es : List Ty} {u : Nat} {k : Int} {j : Nat} {l : List Ty} {x : Ty} (h : x ∈ instL es u k j l) : ∃ t ∈ l, ∃ w, x = instT es w t := by
  obtain ⟨q, hq⟩ := List.mem_iff_getElem?.1 h
  obtain ⟨t, h1, h2⟩ := instL_at l j q x hq
  exact ⟨t, List.mem_of_getElem? h1, _, h2⟩
theorem HS.set {s : Sto} {p b : Nat} {Ds : List Dc} {a : AV} (h : HS s p b Ds a) {j : Nat} {c : List AV} (h1 : j ≠ p) (h2 : j ≠ b) (hc : idsLtL s.bs.length c = true) : HS ⟨s.bs.set j c, s.ts⟩ p b Ds a :=
  ⟨get_set h.hb h1, h.ap, get_set h.mp h2, h.nd, h.ne, OkS.set h.ok hc _, h.ln⟩
theorem pow3_le {a b : Nat} (h : a ≤ b) : 3 ^ a ≤ 3 ^ b := Nat.pow_le_pow_right (by omega) h
theorem sizeL_le {M : Nat} : ∀ (l : List Ty), (∀ x ∈ l, size x ≤ M) → sizeL l ≤ l.length * M
  | [], _ => by simp [sizeL]
  | x :: l, h => by
    have h1 := h x (by simp)
    have h2 := sizeL_le l fun t ht => h t (by simp [ht])
    simp only [sizeL, List.length_cons, Nat.add_mul]
    omega
def SupR (Ds : List Dc) (nm : List UInt8) (ok : Bool) (v : AV) : Prop := match ok with
  | true => ∃ (es : List Ty) (y : AV) (q : Nat) (e : Dc), v = .tuple [.agg [I64 2, SS nm, I64 0, y], BB true] ∧ RowsA y (rowsT es) ∧ Ds[q]? = some e ∧ e.nm = nm ∧ es.length = e.ar
  | false => v = .tuple [.agg Z4, BB false]
section
variable {R : RT} {p b : Nat} {Ds : List Dc} {a : AV}
theorem QM_cut {rr : Bool} {s s0 : Sto} (h0 : OkS s0) (hT : s.bs.take s0.bs.length = s0.bs) (hts : s.ts = s0.ts) {cs : List AV} {x : PV} (hc : ∀ bs n m, closeL bs n m cs = some cs) {Post : AV → Sto → Prop} (hP : Post (.tuple [.agg cs, .pv x]) s0) : QM rr s0.bs.length Post (.tuple [.agg cs, .pv x]) s := by
  refine QM_tuple (ds := [.agg cs, .pv x]) ?_ ?_ ?_
  · rw [hT, List.all_eq_true]; exact h0
  · simp [closeL, close, hc]
  · rw [hT, hts]; exact hP
theorem sup_no {s0 s : Sto} (h0 : OkS s0) {L : Lim} (hro : L.ro ≤ s0.bs.length) {nm : List UInt8} {N : Nat} (hN : s0.bs.length ≤ N) (h1 : s.bs[N]? = some Z4) (hT : s.bs.take s0.bs.length = s0.bs) (hts : s.ts = s0.ts) :
    P146_3 R 0 L.ro L.rt (.ptr N 0) s (QM (L.rr 146) s0.bs.length fun v s' => SupR Ds nm false v ∧ s' = s0) := by
  have hl := (List.getElem?_eq_some_iff.1 h1).1
  refine p146_3 (bd_of (cs := Z4) rfl (st_all h1 rfl rfl (by decide) (by simp [LFE]; omega) (by rfl) (.inl (Nat.zero_le _)) (ldk_of (get_self h1) rfl ?_)))
  refine QM_cut (s := ⟨s.bs.set N Z4, s.ts⟩) (cs := Z4) (x := .sc (.bool false)) (Post := fun v s' => SupR Ds nm false v ∧ s' = s0) h0 ?_ hts (fun _ _ _ => rfl) ⟨rfl, rfl⟩
  show (s.bs.set N Z4).take s0.bs.length = s0.bs
  rw [List.take_set, hT]
  exact List.set_eq_of_length_le hN
theorem sup_loop {s0 : Sto} (h0 : HS s0 p b Ds a) (hT : Tree Ds) (h16 : Ds.length ≤ 16) (hsm : ∀ d ∈ Ds, DSm d) {nm : List UInt8} {L : Lim} (hro : L.ro ≤ s0.bs.length) :
    ∀ (f q : Nat) (e : Dc) (es : List Ty) (y : AV) (s : Sto), Ds[q]? = some e → q < f → RowsA y (rowsT es) → es.length = e.ar → (∀ x ∈ es, size x ≤ 3 ^ (16 - q) ∧ vok x = true) → es.length ≤ 2 → HS s p b Ds a → s.bs[s0.bs.length]? = some [I64 2, SS e.nm, I64 0, y] → s.bs[s0.bs.length + 1]? = some Z4 → s.bs.take s0.bs.length = s0.bs → s.ts = s0.ts → (∀ d ∈ Ds, d.ar ≤ 2) →
      P146_1 R 0 L.ro L.rt (.ptr p 0) (SS nm) (.ptr s0.bs.length 0) (.ptr (s0.bs.length + 1) 0) s (QM (L.rr 146) s0.bs.length fun v s' => SupR Ds nm (up Ds nm f e) v ∧ s' = s0) := by
  have hp := (List.getElem?_eq_some_iff.1 h0.hb).1
  have hb := (List.getElem?_eq_some_iff.1 h0.mp).1
  intro f
  induction f with
  | zero => intro q e es y s _ h; omega
  | succ f ih =>
    intro q e es y s hq hf hy hlen hez he2 h g0 g1 hTk hts har
    have hqq := (List.getElem?_eq_some_iff.1 hq).1
    have hl1 := (List.getElem?_eq_some_iff.1 g1).1
    refine p146_1 (fad_of (al_of g0) (ld_of g0 rfl (in_eql (co_t (p146_2 (fad_of (al_of g0) (ld_of g0 rfl (st_eql ?_))))))))
    have hM : 3 ^ (16 - q) ≤ 3 ^ 16 := pow3_le (by omega)
    have h316 : (3 : Nat) ^ 16 = 43046721 := by rfl
    have hsum : sizeL es ≤ 2 * 43046721 := by
      have h1 := sizeL_le (M := 43046721) es fun x hx => by have := (hez x hx).1; omega
      generalize 43046721 = Q at h1 ⊢
      exact Nat.le_trans h1 (Nat.mul_le_mul_right _ he2)
    have hvk : vokL es = true := vokL_of fun t ht => (hez t ht).2
    cases he : (e.nm == nm) with
    | true =>
      have hen : e.nm = nm := by simpa using he
      have e1 : up Ds nm (f + 1) e = true := by simp [up, hen]
      rw [e1]
      have hC := cloneT_spec (R := R) (t := .mk 2 e.nm 0 es) (by simp only [size]; omega) (by rw [vok, hvk]; rfl) (x := .agg [I64 2, SS e.nm, I64 0, y]) ⟨y, rfl, hy⟩
      refine co_t (ldk_of g0 rfl (wCall_pure hC ?_))
      rintro _ ⟨y', rfl, hy'⟩
      refine st_all g1 rfl rfl (by decide) (by simp [LFE]; omega) (by simp [okS, okI, hy'.ok]) (.inl (Nat.zero_le _)) (ldk_of (get_self g1) rfl ?_)
      refine QM_cut (s := ⟨s.bs.set (s0.bs.length + 1) [I64 2, SS e.nm, I64 0, y'], s.ts⟩) (cs := [I64 2, SS e.nm, I64 0, y']) (x := .sc (.bool true)) (Post := fun v s' => SupR Ds nm true v ∧ s' = s0) h0.ok ?_ hts (fun bs n m => by simp [closeL, close, hy'.close]) ⟨⟨es, y', q, e, by rw [hen], hy', hq, hen, hlen⟩, rfl⟩
      show (s.bs.set (s0.bs.length + 1) _).take s0.bs.length = s0.bs
      rw [List.take_set, hTk]
      exact List.set_eq_of_length_le (by omega)
    | false =>
      refine co_f (p146_4 (ldk_of g0 rfl ⟨_, _, declares_spec h hq (i := 0) (ts := es) hlen.symm ⟨y, rfl, hy⟩ (by simp [LFE]; omega), nt (co_f (p146_5 ?_))⟩))
      have hF := find_some (R := R) h hq (L := LFE (env R) 146 0 L.ro L.rt) (by simp [LFE]; omega)
      refine fad_of (al_of g0) (ld_of g0 rfl ⟨_, _, hF, ex_of rfl (ex_of rfl (new_of ?_))⟩)
      obtain ⟨w, hw, hed⟩ := DRep.of_row e
      cases hw
      obtain ⟨w1, w2, w3, _⟩ := hed.ok
      refine st_all (get_last _ _) w2 rfl (by decide) (by simp [LFE]; omega) w1 (.inl (Nat.zero_le _)) ?_
      simp only [set_last]
      have g0' := get_push g0 ((rowD e).map AV.pv)
      have g1' := get_push g1 ((rowD e).map AV.pv)
      have g2' := get_last s.bs ((rowD e).map AV.pv)
      obtain ⟨u0, ur, hur⟩ : ∃ c r, (rowD e).map AV.pv = c :: r := ⟨_, _, rfl⟩
      have al2 : alive ⟨s.bs ++ [(rowD e).map AV.pv], s.ts⟩ s.bs.length = true := by
        rw [hur]; exact al_of (get_last _ _)
      have hds := hsm e (List.mem_of_getElem? hq)
      have hpow : 1 ≤ 3 ^ (16 - q) := Nat.pow_pos (by omega)
      have hI := inst_spec (R := R) hds.su.1 hds.su.2 hy (fun x hx => by have := (hez x hx).1; omega) (TRep.of_row e.su)
      refine fad_of al2 (ldp_of (ds := (rowT e.su).map .pv) g2' (by simp [rowD_len]) (by
        obtain ⟨en, ear, ⟨k, n, i, ts⟩, eco, efs⟩ := e
        rfl) (fad_of (al_of g0') (ld_of g0' rfl (wCall_pure hI ?_))))
      have hh := h.push (w3 (s.bs.length + 1))
      rcases hT q e hq with hsu | ⟨n', ts', q', e', hsu, hq', hen, hlt, hear, hsz, hvok⟩
      · rw [hsu]
        rintro _ ⟨c, rfl, hc⟩
        have e1 : up Ds nm (f + 1) e = false := by simp [up, he, hsu]
        rw [e1]
        refine st_all g0' rfl rfl (by decide) (by simp [LFE]; omega) (by simp [okS, okI, hc.ok]) (.inl (Nat.zero_le _)) ?_
        have k0 := get_self (b := [I64 0, SS [], I64 0, c]) g0'
        refine p146_1 (fad_of (al_of k0) (ld_of k0 rfl (in_eql (co_f (sup_no h0.ok hro (by omega) (get_set g1' (by omega)) ?_ hts)))))
        show ((s.bs ++ [_]).set s0.bs.length _).take s0.bs.length = s0.bs
        rw [List.take_set, List.take_append_of_le_length (by omega), hTk]
        exact List.set_eq_of_length_le (by omega)
      · rw [hsu]
        have hfi := find_at h0.nd hq'
        rw [hen] at hfi
        have e1 : up Ds nm (f + 1) e = up Ds nm f e' := by simp [up, he, hsu, hfi]
        rw [e1]
        have e2 : instT es 0 (.mk 2 n' 0 ts') = .mk 2 n' 0 (instL es 0 2 0 ts') := by simp [instT]
        rw [e2]
        rintro _ ⟨c, rfl, hc⟩
        refine st_all g0' rfl rfl (by decide) (by simp [LFE]; omega) (by simp [okS, okI, hc.ok]) (.inl (Nat.zero_le _)) ?_
        have k0 := get_self (b := [I64 2, SS n', I64 0, c]) g0'
        have hset := hh.set (j := s0.bs.length) (c := [I64 2, SS n', I64 0, c]) (by omega) (by omega) (by simp [idsLtL, idsLt, hc.idsLt])
        have hll : (instL es 0 2 0 ts').length = e'.ar := by rw [instL_len, hear]
        refine ih q' e' (instL es 0 2 0 ts') c _ hq' (by omega) hc hll ?_ (by rw [hll]; exact har e' (List.mem_of_getElem? hq')) hset (by rw [hen]; exact k0) (get_set g1' (by omega)) ?_ hts har
        · intro x hx
          obtain ⟨t, ht, w, rfl⟩ := instL_mem hx
          refine ⟨?_, vok_inst (fun x hx => (hez x hx).2) t w (vokL_mem hvok ht)⟩
          have h1 := size_inst hpow (fun x hx => (hez x hx).1) t w
          have h2 := hsz t ht
          have h3 : size t * 3 ^ (16 - q) ≤ 3 * 3 ^ (16 - q) := Nat.mul_le_mul_right _ h2
          have h4 : 3 * 3 ^ (16 - q) = 3 ^ (16 - q + 1) := by rw [Nat.pow_succ, Nat.mul_comm]
          have h5 : 3 ^ (16 - q + 1) ≤ 3 ^ (16 - q') := pow3_le (by omega)
          omega
        · show ((s.bs ++ [_]).set s0.bs.length _).take s0.bs.length = s0.bs
          rw [List.take_set, List.take_append_of_le_length (by omega), hTk]
          exact List.set_eq_of_length_le (by omega)
structure DsOk (Ds : List Dc) : Prop where
  tr : Tree Ds
  ln : Ds.length ≤ 16
  sm : ∀ d ∈ Ds, DSm d
  ar : ∀ d ∈ Ds, d.ar ≤ 2
theorem supertype_spec {s : Sto} (h : HS s p b Ds a) (hD : DsOk Ds) (nm : List UInt8) {q : Nat} {e : Dc} (hq : Ds[q]? = some e) (h0 : e.ar = 0) {x : AV} (hx : TRep (.mk 2 e.nm 0 []) x) {L : Lim} (hro : L.ro ≤ s.bs.length) :
    ∃ v s', (SupR Ds nm (up Ds nm 61 e) v ∧ s' = s) ∧ CallE (env R) L 146 [.ptr p 0, x, SS nm] s v s' := by
  obtain ⟨y, rfl, hy⟩ := hx
  have h1 := h.push (c := [I64 2, SS e.nm, I64 0, y]) (by simp [idsLtL, idsLt, hy.idsLt])
  have h2 := h1.push (c := Z4) (by rfl)
  have hqq := (List.getElem?_eq_some_iff.1 hq).1
  have hl := hD.ln
  refine m146 (by rfl) (p146_0 (bx_of (cs := [I64 2, SS e.nm, I64 0, y]) rfl (by simp [okS, okI, hy.ok]) (new_of ?_)))
  have e1 : (s.bs ++ [[I64 2, SS e.nm, I64 0, y]]).length = s.bs.length + 1 := by simp
  simp only [e1]
  refine sup_loop h hD.tr hD.ln hD.sm hro 61 q e [] y _ hq (by omega) hy h0.symm (by simp) (by simp) h2 (get_push (get_last _ _) _) ?_ (by simp) rfl hD.ar
  show (s.bs ++ [[I64 2, SS e.nm, I64 0, y]] ++ [Z4])[s.bs.length + 1]? = _
  rw [← e1]
  exact get_last _ _
theorem supertype_no {s : Sto} (h : HS s p b Ds a) (nm : List UInt8) {k i : Int} {n : List UInt8} {ts : List Ty} (hk : k ≠ 2) {x : AV} (hx : TRep (.mk k n i ts) x) {L : Lim} (hro : L.ro ≤ s.bs.length) :
    ∃ v s', (SupR Ds nm false v ∧ s' = s) ∧ CallE (env R) L 146 [.ptr p 0, x, SS nm] s v s' := by
  obtain ⟨y, rfl, hy⟩ := hx
  refine m146 (by rfl) (p146_0 (bx_of (cs := [I64 k, SS n, I64 i, y]) rfl (by simp [okS, okI, hy.ok]) (new_of ?_)))
  have g0 := get_push (get_last s.bs [I64 k, SS n, I64 i, y]) Z4
  have b2 : (k == 2) = false := by simpa using hk
  refine p146_1 (fad_of (al_of g0) (ld_of g0 rfl (in_eql ?_)))
  rw [b2]
  exact co_f (sup_no h.ok hro (by simp) (get_last _ _) (by simp) rfl)
end
end Go.Proofs.YtcmeadgdojfhnaaGreatDoor
/-
  IsSubtype of types that are one branch without bounds, against a nominal type without arguments.
-/
namespace Go.Proofs.YtcmeadgdojfhnaaGreatDoor
open Go.Tel
attribute [local simp] wNew wBox wBoxZ markT wCond wBuild fillS wO setCells wSt wLd wPart LFE wFad alive wInt wStr wGK wGd wPick wExt wLen wSlen wNot wNil okI ceI okB ceB okS ceS okL ceL okC ceC okO ceO okP ceP okG ceG okE ceE okR ceR okF ceF okX ceX okM ceM okN ceN okNf ceNf okNi ceNi ceA roL roC roO leL leC leO tpP tpC tpO clP clC clO clF clA clT clN clL nbP nbC nbO nbN nbL toPVs
def bRow (t : Ty) : List PV := .list [] :: rowT t
theorem bRow_len (t : Ty) : (bRow t).length = 5 := by simp [bRow, rowT_len]
theorem bRow_ok (t : Ty) : ((bRow t).map AV.pv).all okCell = true := by cases t; rfl
section
variable {R : RT} {p b : Nat} {Ds : List Dc} {a : AV}
theorem fits_none {y z : AV} (hy : RowsA y []) (hz : RowsA z []) {s : Sto} (hs : OkS s) (M : Nat) (L : Lim) : CallE (env R) L 145 [y, z, .func (.func 147) [.ptr M 0] []] s (BB true) s := by
  refine rdc (m145 (by simp [noIdL, noId]) (p145_0 (len_of (n := 0) (by rw [hy.lenA]; rfl) (len_of (n := 0) (by rw [hz.lenA]; rfl) (in_neq (co_f ?_))))))
  refine p145_1 (len_of (n := 0) (by rw [hy.lenA]; rfl) (p145_2 (in_lss (co_f (p145_4 ?_)))))
  have := QM_read (rr := L.rr 145) hs (m := []) (p := .sc (.bool true)) (Post := fun v s' => v = BB true ∧ s' = s) ⟨rfl, rfl⟩
  simpa using this
def SupC (R : RT) (p b : Nat) (Ds : List Dc) (a : AV) (nm : List UInt8) (ok : Bool) (tc : List AV) : Prop := ∀ (s : Sto), HS s p b Ds a → ∀ L : Lim, L.ro ≤ s.bs.length → ∃ v s', (SupR Ds nm ok v ∧ s' = s) ∧ CallE (env R) L 146 [.ptr p 0, .agg tc, SS nm] s v s'
theorem matches_spec {nm : List UInt8} {ok : Bool} {tc : List AV} (hS : SupC R p b Ds a nm ok tc) (h4 : tc.length = 4) (hok : tc.all okCell = true) (hid : ∀ n, idsLtL n tc = true) {z : AV} (hz : RowsA z []) (hb : ∀ (q : Nat) (e : Dc), Ds[q]? = some e → e.nm = nm → e.ar = 0)
    {s : Sto} (h : HS s p b Ds a) {M : Nat} {mc : List AV} (hM : s.bs[M]? = some (.ptr p 0 :: mc)) {L : Lim} (hro : L.ro ≤ s.bs.length) : CallE (env R) L 114 [.ptr M 0, .agg tc, .agg [I64 2, SS nm, I64 0, z]] s (BB ok) s := by
  have h1 := h.push (hid (s.bs.length + 1))
  have h2 := h1.push (c := [I64 2, SS nm, I64 0, z]) (by simp [idsLtL, idsLt, hz.idsLt])
  have h3 := h2.push (c := Z4) (by rfl)
  have g0 := get_push (get_last s.bs tc) [I64 2, SS nm, I64 0, z]
  have g1 := get_last (s.bs ++ [tc]) [I64 2, SS nm, I64 0, z]
  have k0 := get_push g0 Z4
  have k1 := get_push g1 Z4
  have k2 := get_last (s.bs ++ [tc] ++ [[I64 2, SS nm, I64 0, z]]) Z4
  have kM := get_push (get_push (get_push hM tc) [I64 2, SS nm, I64 0, z]) Z4
  refine rdc (m114 (by simp [noIdL, noId]) (p114_0 (bx_of (cs := tc) rfl hok (bx_of (cs := [I64 2, SS nm, I64 0, z]) rfl (by simp [okS, okI, hz.ok]) ?_))))
  refine fad_of (al_of g1) (ld_of g1 rfl (in_eql (co_f (in_eql (co_f (in_eql (co_f (in_eql (co_t ?_)))))))))
  refine nil_of (al_of kM) (fad_of (al_of kM) (ld_of kM rfl (ldk_of k0 h4 (fad_of (al_of k1) (ld_of k1 rfl ?_)))))
  refine wCall_do (hS _ h3 (LFE (env R) 114 0 L.ro L.rt) (by simp [LFE]; omega)) ?_
  rintro v s' ⟨hv, rfl⟩
  cases ok with
  | false =>
    simp only [SupR] at hv
    subst hv
    refine ex_of rfl (ex_of rfl ?_)
    refine st_all k2 rfl rfl (by decide) (by simp [LFE]; omega) (by rfl) (.inl (Nat.zero_le _)) ?_
    have chk : (wO (idOf (.ptr (s.bs ++ [tc] ++ [[I64 2, SS nm, I64 0, z]]).length 0)) fun id => wO (⟨s.bs ++ [tc] ++ [[I64 2, SS nm, I64 0, z]] ++ [Z4], s.ts⟩ : Sto).bs[id]? fun cs' => eqAL cs' Z4 = true) := by
      simp only [idOf, wO, k2]
      rfl
    refine ⟨chk, chk, gk_ft (gk_ft (gk_ft (gk_ft (gk_ft (gk_ft (gk_ft (pk ?_)))))))⟩
    simp only [set_last, cond_false]
    have := QM_read (rr := L.rr 114) h.ok (m := [tc, [I64 2, SS nm, I64 0, z], Z4]) (p := .sc (.bool false)) (Post := fun v s' => v = BB false ∧ s' = s) ⟨rfl, rfl⟩
    simpa using this
  | true =>
    simp only [SupR] at hv
    obtain ⟨es, y, q, e, rfl, hy, hq, hen, hel⟩ := hv
    have he0 : es = [] := List.length_eq_zero_iff.1 (by rw [hel]; exact hb q e hq hen)
    subst he0
    refine ex_of rfl (ex_of rfl ?_)
    refine st_all k2 rfl rfl (by decide) (by simp [LFE]; omega) (by simp [okS, okI, hy.ok]) (.inl (Nat.zero_le _)) ?_
    have chk : (wO (idOf (.ptr (s.bs ++ [tc] ++ [[I64 2, SS nm, I64 0, z]]).length 0)) fun id => wO (⟨s.bs ++ [tc] ++ [[I64 2, SS nm, I64 0, z]] ++ [Z4], s.ts⟩ : Sto).bs[id]? fun cs' => eqAL cs' Z4 = true) := by
      simp only [idOf, wO, k2]
      rfl
    refine ⟨chk, chk, ?_⟩
    simp only [set_last]
    have r1 := get_push g1 [I64 2, SS nm, I64 0, y]
    have r2 := get_last (s.bs ++ [tc] ++ [[I64 2, SS nm, I64 0, z]]) [I64 2, SS nm, I64 0, y]
    have h3' := h2.push (c := [I64 2, SS nm, I64 0, y]) (by simp [idsLtL, idsLt, hy.idsLt])
    refine gk_t (fad_of (al_of r2) (gk_t (ld_of r2 rfl (gk_t (fad_of (al_of r1) (gk_t (ld_of r1 rfl (gk_t (gk_t (gk_t ⟨_, _, fits_none hy hz h3'.ok M _, pk ?_⟩))))))))))
    have := QM_read (rr := L.rr 114) h.ok (m := [tc, [I64 2, SS nm, I64 0, z], [I64 2, SS nm, I64 0, y]]) (p := .sc (.bool true)) (Post := fun v s' => v = BB true ∧ s' = s) ⟨rfl, rfl⟩
    simpa using this
theorem cbool {R : RT} : PureC (env R) 115 [.capped [], BB false] fun v => v = BB false := by
  refine e115 (u0 := .capped []) (u1 := BB false) (by rfl) (p115_0 ?_)
  have : PureC (env R) 148 [.capped [], BB false] fun v => v = I64 (-1) := by
    refine e148 (u0 := .capped []) (u1 := BB false) (by rfl) (p148_0 (len_of (n := 0) rfl (p148_1 (in_lss (co_f (p148_3 ⟨_, clP, rfl⟩))))))
  refine wCall_pure this ?_
  rintro _ rfl
  exact in_geq ⟨_, clP, rfl⟩
theorem match_spec {nm : List UInt8} {ok : Bool} {t : Ty} (hS : SupC R p b Ds a nm ok ((rowT t).map .pv)) (hb : ∀ (q : Nat) (e : Dc), Ds[q]? = some e → e.nm = nm → e.ar = 0) {s : Sto} (h : HS s p b Ds a) : ∃ v, v = .tuple [.capped [], BB ok] ∧ ∀ L, CallE (env R) L 82 [.ptr p 0, .agg ((bRow t).map .pv), .agg ((bRow (.mk 2 nm 0 [])).map .pv)] s v s := by
  have hp := (List.getElem?_eq_some_iff.1 h.hb).1
  have hc5 := bRow_len t
  have hcok := bRow_ok t
  have hcid : ∀ n, idsLtL n ((bRow t).map AV.pv) = true := fun n => by cases t; rfl
  have hpart : (((bRow t).map AV.pv).drop (0 + 1)).take 4 = (rowT t).map .pv := by cases t; rfl
  have hrt : ((rowT t).map AV.pv).length = 4 := by simp [rowT_len]
  have hrok := rowT_ok t
  have hrid : ∀ n, idsLtL n ((rowT t).map AV.pv) = true := fun n => by cases t; rfl
  obtain ⟨c0, c1, c2, c3, c4, hcs⟩ : ∃ c0 c1 c2 c3 c4, (bRow t).map AV.pv = [c0, c1, c2, c3, c4] := by cases t; exact ⟨_, _, _, _, _, rfl⟩
  generalize hC : (bRow t).map AV.pv = C at hcok hcid hpart hcs
  have hC5 : C.length = 5 := by rw [hcs]; rfl
  refine i82 (by rfl) (p82_0 (bx_of (cs := C) rfl hcok (bx_of (cs := (bRow (.mk 2 nm 0 [])).map .pv) rfl (bRow_ok _) ?_)))
  have h1 := h.push (hcid (s.bs.length + 1))
  have h2 := h1.push (c := (bRow (.mk 2 nm 0 [])).map .pv) (by rfl)
  have g0 := get_push (get_last s.bs C) ((bRow (.mk 2 nm 0 [])).map .pv)
  have g1 := get_last (s.bs ++ [C]) ((bRow (.mk 2 nm 0 [])).map AV.pv)
  have al0 : alive ⟨s.bs ++ [C] ++ [(bRow (.mk 2 nm 0 [])).map AV.pv], s.ts⟩ s.bs.length = true := by rw [hcs] at g0 ⊢; exact al_of g0
  have e0 : Tel.eqA (I64 ((0 : Nat) : Int)) (I64 0) = true := by rfl
  refine fad_of (al_of g1) (ld_of g1 rfl (len_of (n := 0) rfl ⟨e0, e0, e0, e0, ldk_of g0 hC5 ?_⟩))
  refine bd_of (cs := [.ptr p 0, c0, c1, c2, c3, c4, .capped [], .capped [], .capped []]) (by
    rw [hcs]
    rw [hcs] at hcok
    simp only [List.all_cons, Bool.and_eq_true] at hcok
    obtain ⟨q0, q1, q2, q3, q4, _⟩ := hcok
    simp [q0, q1, q2, q3, q4]) ?_
  refine bx_of (cs := [.ptr p 0, c0, c1, c2, c3, c4, .capped [], .capped [], .capped []]) rfl (by
    rw [hcs] at hcok
    simp only [List.all_cons, Bool.and_eq_true] at hcok
    obtain ⟨q0, q1, q2, q3, q4, _⟩ := hcok
    simp [q0, q1, q2, q3, q4]) ?_
  have e00 : Tel.eqA (.capped []) (.capped []) = true := by rfl
  refine ⟨⟨e0, e0, e00⟩, ⟨e0, e0, e00⟩, ?_⟩
  have hmi : idsLtL ((s.bs ++ [C] ++ [(bRow (.mk 2 nm 0 [])).map AV.pv]).length + 1) [.ptr p 0, c0, c1, c2, c3, c4, .capped [], .capped [], .capped []] = true := by
    have := hcid ((s.bs ++ [C] ++ [(bRow (.mk 2 nm 0 [])).map AV.pv]).length + 1)
    rw [hcs] at this
    simp [idsLtL, idsLt] at this ⊢
    refine ⟨by omega, this⟩
  have h3 := h2.push hmi
  have k0 := get_push g0 [.ptr p 0, c0, c1, c2, c3, c4, .capped [], .capped [], .capped []]
  have k1 := get_push g1 [.ptr p 0, c0, c1, c2, c3, c4, .capped [], .capped [], .capped []]
  have k2 := get_last (s.bs ++ [C] ++ [(bRow (.mk 2 nm 0 [])).map AV.pv]) [.ptr p 0, c0, c1, c2, c3, c4, .capped [], .capped [], .capped []]
  have al0' : alive ⟨s.bs ++ [C] ++ [(bRow (.mk 2 nm 0 [])).map AV.pv] ++ [[.ptr p 0, c0, c1, c2, c3, c4, .capped [], .capped [], .capped []]], s.ts⟩ s.bs.length = true := by rw [hcs] at k0 ⊢; exact al_of k0
  refine fad_of al0' (ldp_of (ds := (rowT t).map .pv) k0 (by omega) hpart ?_)
  refine fad_of (al_of k1) (ldp_of (ds := [I64 2, SS nm, I64 0, .pv (.list [])]) k1 (by simp [bRow_len]) rfl ?_)
  refine ⟨_, _, matches_spec hS hrt hrok hrid (z := .pv (.list [])) (.list []) hb h3 k2 (by simp [LFE]), nt ?_⟩
  cases ok with
  | false =>
    refine gk_tf (gk_tf (gk_tf (gk_tf (gk_tf (pk (co_t ?_))))))
    exact ⟨_, by rfl, rfl⟩
  | true =>
    refine gk_t (gk_t (nil_of (al_of k2) (gk_t (fad_of (al_of k2) (gk_t (ld_of k2 rfl (gk_t (wCall_pure cbool ?_))))))))
    rintro _ rfl
    refine pk (co_f (p82_1 (nil_of (al_of k2) (fad_of (al_of k2) (ld_of k2 rfl (len_of (n := 0) rfl ?_))))))
    refine p82_2 (in_lss (co_f (p82_4 (fad_of (al_of k1) (ld_of k1 rfl (len_of (n := 0) rfl ?_))))))
    refine p82_6 (in_lss (co_f (p82_8 (nil_of (al_of k2) (fad_of (al_of k2) (ld_of k2 rfl ?_))))))
    exact ⟨_, by rfl, rfl⟩
theorem below_spec {nm : List UInt8} {ok : Bool} {t : Ty} (hS : SupC R p b Ds a nm ok ((rowT t).map .pv)) (hb : ∀ (q : Nat) (e : Dc), Ds[q]? = some e → e.nm = nm → e.ar = 0) (hcv : PureC (env R) 79 [.agg ((bRow t).map .pv)] fun v => RowsA v []) {br : AV} (hbr : RowsA br [bRow (.mk 2 nm 0 [])])
    {s : Sto} (h : HS s p b Ds a) : ∃ v, v = BB ok ∧ ∀ L, CallE (env R) L 51 [.ptr p 0, .agg ((bRow t).map .pv), br] s v s := by
  have hp := (List.getElem?_eq_some_iff.1 h.hb).1
  have hc5 : ((bRow t).map AV.pv).length = 5 := by simp [bRow_len]
  have hcok := bRow_ok t
  have hcid : ∀ n, idsLtL n ((bRow t).map AV.pv) = true := fun n => by cases t; rfl
  have hmt := fun s' (h' : HS s' p b Ds a) => match_spec (R := R) hS hb h'
  generalize (bRow t).map AV.pv = C at hc5 hcok hcid hcv hmt
  have h1 := h.push (c := [.ptr p 0]) (by simp [idsLtL, idsLt]; omega)
  have h2 := h1.push (hcid _)
  have h3 := h2.push (c := [br]) (by simp [idsLtL, hbr.idsLt])
  have h4 := h3.push (c := (bRow (.mk 2 nm 0 [])).map .pv) (by rfl)
  have g0 := get_push (get_push (get_last s.bs [.ptr p 0]) C) [br]
  have g1 := get_push (get_last (s.bs ++ [[AV.ptr p 0]]) C) [br]
  have g2 := get_last (s.bs ++ [[AV.ptr p 0]] ++ [C]) [br]
  refine i51 (by rfl) (p51_0 (bx_of (cs := [.ptr p 0]) rfl (by rfl) (bx_of (cs := C) rfl hcok (bx_of (cs := [br]) hbr.cells (by simp [hbr.ok]) ?_))))
  refine ld_of g2 rfl (len_of (n := 1) (by rw [hbr.lenA]; rfl) (p51_1 (in_lss (co_t (p51_2 ?_)))))
  refine wIdx_rows hbr (row := bRow (.mk 2 nm 0 [])) (by omega) rfl (bRow_len _) (by omega) (ldrow (bRow_len _) (new_of ?_))
  refine st_all (get_last _ _) rfl rfl (by decide) (by simp [LFE]) (bRow_ok _) (.inl (by simp [LFE])) ?_
  simp only [set_last]
  have k0 := get_push g0 ((bRow (.mk 2 nm 0 [])).map AV.pv)
  have k1 := get_push g1 ((bRow (.mk 2 nm 0 [])).map AV.pv)
  have k3 := get_last (s.bs ++ [[AV.ptr p 0]] ++ [C] ++ [[br]]) ((bRow (.mk 2 nm 0 [])).map AV.pv)
  obtain ⟨w, rfl, hw⟩ := hmt _ h4
  refine ld_of k0 rfl (ldk_of k1 hc5 (ldk_of k3 rfl ⟨_, _, hw _, ex_of rfl (ex_of rfl ?_)⟩))
  cases ok with
  | true => exact co_t ⟨_, by rfl, rfl⟩
  | false =>
    refine co_f (p51_4 (in_add (by omega) (by omega) (p51_1 (in_lss (co_f (p51_3 (ldk_of k1 hc5 (wCall_pure hcv ?_))))))))
    intro v hv
    refine len_of (n := 0) (by rw [hv.lenA]; rfl) (p51_5 (in_lss (co_f (p51_7 ⟨_, by rfl, rfl⟩))))
theorem bbC_spec {nm : List UInt8} {ok : Bool} {t : Ty} (hS : SupC R p b Ds a nm ok ((rowT t).map .pv)) (hb : ∀ (q : Nat) (e : Dc), Ds[q]? = some e → e.nm = nm → e.ar = 0) (hcv : PureC (env R) 79 [.agg ((bRow t).map .pv)] fun v => RowsA v []) {br : AV} (hbr : RowsA br [bRow (.mk 2 nm 0 [])])
    {s : Sto} (h : HS s p b Ds a) {N M : Nat} (hN : s.bs[N]? = some [.ptr p 0]) (hM : s.bs[M]? = some [br]) (L : Lim) : CallE (env R) L 50 [.agg ((bRow t).map .pv), .ptr N 0, .ptr M 0] s (BB (!ok)) s := by
  have hc5 : ((bRow t).map AV.pv).length = 5 := by simp [bRow_len]
  have hcok := bRow_ok t
  have hcid : ∀ n, idsLtL n ((bRow t).map AV.pv) = true := fun n => by cases t; rfl
  have hbl := fun s' (h' : HS s' p b Ds a) => below_spec (R := R) hS hb hcv hbr h'
  generalize (bRow t).map AV.pv = C at hc5 hcok hcid hbl
  have h1 := h.push (hcid (s.bs.length + 1))
  obtain ⟨w, rfl, hw⟩ := hbl _ h1
  refine rdc (m50 (by simp [noIdL, noId]) (p50_0 (bx_of (cs := C) rfl hcok (ld_of (get_push hN C) rfl (ldk_of (get_last _ _) hc5 (ld_of (get_push hM C) rfl ⟨_, _, hw _, nt ?_⟩))))))
  have := QM_read (rr := L.rr 50) h.ok (m := [C]) (p := .sc (.bool !ok)) (Post := fun v s' => v = BB (!ok) ∧ s' = s) ⟨rfl, rfl⟩
  simpa using this
theorem contains_one {f : FuncId} {cs : List AV} {t : Ty} {ok : Bool} {y : AV} (hy : RowsA y [bRow t]) {s : Sto} (hs : OkS s) (hcs : noIdL cs = false) (hf : ∀ L, CallE (env R) L f (.agg ((bRow t).map .pv) :: cs) s (BB ok) s) (L : Lim) : CallE (env R) L 49 [y, .func (.func f) [] cs] s (BB ok) s := by
  have hi : ∀ L, ∃ i : Int, decide (i ≥ 0) = ok ∧ CallE (env R) L 81 [y, .func (.func f) [] cs] s (I64 i) s := by
    intro L
    refine ⟨bif ok then 0 else -1, by cases ok <;> rfl, ?_⟩
    refine rdc (m81 (by simp [noIdL, noId, hcs]) (p81_0 (len_of (n := 1) (by rw [hy.lenA]; rfl) (p81_1 (in_lss (co_t (p81_2 ?_)))))))
    refine wIdx_rows hy (row := bRow t) (by omega) rfl (bRow_len _) (by omega) (ldrow (bRow_len _) ⟨_, _, hf _, ?_⟩)
    cases ok with
    | true =>
      refine co_t ?_
      have := QM_read (rr := L.rr 81) hs (m := []) (p := .sc (.int .i64 0)) (Post := fun v s' => v = I64 0 ∧ s' = s) ⟨rfl, rfl⟩
      simpa using this
    | false =>
      refine co_f (p81_4 (in_add (by omega) (by omega) (p81_1 (in_lss (co_f (p81_3 ?_))))))
      have := QM_read (rr := L.rr 81) hs (m := []) (p := .sc (.int .i64 (-1))) (Post := fun v s' => v = I64 (-1) ∧ s' = s) ⟨rfl, rfl⟩
      simpa using this
  obtain ⟨i, h1, h2⟩ := hi (LFE (env R) 49 0 L.ro L.rt)
  refine rdc (m49 (by simp [noIdL, noId, hcs]) (p49_0 ⟨_, _, h2, in_geq ?_⟩))
  rw [h1]
  have := QM_read (rr := L.rr 49) hs (m := []) (p := .sc (.bool ok)) (Post := fun v s' => v = BB ok ∧ s' = s) ⟨rfl, rfl⟩
  simpa using this
def ExpOk (R : RT) (x : AV) (t : Ty) : Prop := PureC (env R) 24 [x] fun v => ∃ br, v = .tuple [br, I64 0] ∧ RowsA br [bRow t]
theorem bsBelow_spec {nm : List UInt8} {ok : Bool} {t : Ty} (hS : SupC R p b Ds a nm ok ((rowT t).map .pv)) (hb : ∀ (q : Nat) (e : Dc), Ds[q]? = some e → e.nm = nm → e.ar = 0) (hcv : PureC (env R) 79 [.agg ((bRow t).map .pv)] fun v => RowsA v []) (hE : ExpOk R (.agg [I64 2, SS nm, I64 0, .capped []]) (.mk 2 nm 0 [])) {l : AV} (hl : RowsA l [bRow t])
    {s : Sto} (h : HS s p b Ds a) : ∃ v, v = BB ok ∧ ∀ L, CallE (env R) L 25 [.ptr p 0, l, .agg [I64 2, SS nm, I64 0, .capped []]] s v s := by
  have hp := (List.getElem?_eq_some_iff.1 h.hb).1
  have h1 := h.push (c := [.ptr p 0]) (by simp [idsLtL, idsLt]; omega)
  have h2 := h1.push (c := [I64 2, SS nm, I64 0, .capped []]) (by rfl)
  have g0 := get_push (get_last s.bs [.ptr p 0]) [I64 2, SS nm, I64 0, .capped []]
  have g1 := get_last (s.bs ++ [[AV.ptr p 0]]) [I64 2, SS nm, I64 0, .capped []]
  refine i25 (by simp [closeL, close]) (p25_0 (bx_of (cs := [.ptr p 0]) rfl (by rfl) (bx_of (cs := [I64 2, SS nm, I64 0, .capped []]) rfl (by rfl) (ldk_of g1 rfl (wCall_pure hE ?_)))))
  rintro _ ⟨br, rfl, hbr⟩
  refine ex_of rfl (ex_of rfl (new_of ?_))
  refine st_one (get_last _ _) (by simp) hbr.cells (by simp [LFE]) hbr.ok (.inl (by simp [LFE])) ?_
  simp only [set_last, List.set_cons_zero]
  have h3 := h2.push (c := [br]) (by simp [idsLtL, hbr.idsLt])
  have k0 := get_push g0 [br]
  have k2 := get_last (s.bs ++ [[AV.ptr p 0]] ++ [[I64 2, SS nm, I64 0, .capped []]]) [br]
  refine in_eql (gk_t (gk_t (gk_t ⟨_, _, contains_one (f := 50) (ok := !ok) hl h3.ok rfl (fun L => bbC_spec hS hb hcv hbr h3 k0 k2 L) _, ?_⟩)))
  refine gk_t (nt (pk ⟨_, clP, ?_⟩))
  simp
theorem isSubtype_spec {nm : List UInt8} {ok : Bool} {t : Ty} {x : List AV} (hx4 : x.length = 4) (hxo : x.all okCell = true) (hxi : ∀ n, idsLtL n x = true) (hEx : ExpOk R (.agg x) t) (hS : SupC R p b Ds a nm ok ((rowT t).map .pv)) (hb : ∀ (q : Nat) (e : Dc), Ds[q]? = some e → e.nm = nm → e.ar = 0) (hcv : PureC (env R) 79 [.agg ((bRow t).map .pv)] fun v => RowsA v []) (hE : ExpOk R (.agg [I64 2, SS nm, I64 0, .capped []]) (.mk 2 nm 0 []))
    {s : Sto} (h : HS s p b Ds a) : ∃ v, v = BB ok ∧ ∀ L, CallE (env R) L 9 [.ptr p 0, .agg x, .agg [I64 2, SS nm, I64 0, .capped []]] s v s := by
  have h1 := h.push (hxi (s.bs.length + 1))
  have h2 := h1.push (c := [I64 2, SS nm, I64 0, .capped []]) (by rfl)
  have g0 := get_push (get_last s.bs x) [I64 2, SS nm, I64 0, .capped []]
  have g1 := get_last (s.bs ++ [x]) [I64 2, SS nm, I64 0, .capped []]
  refine i9 (by simp [closeL, close]) (p9_0 (bx_of (cs := x) rfl hxo (bx_of (cs := [I64 2, SS nm, I64 0, .capped []]) rfl (by rfl) (ldk_of g0 hx4 (wCall_pure hEx ?_)))))
  rintro _ ⟨l, rfl, hl⟩
  obtain ⟨w, rfl, hw⟩ := bsBelow_spec (R := R) hS hb hcv hE hl h2
  exact ex_of rfl (ex_of rfl (in_eql (gk_t (gk_t (gk_t (ldk_of g1 rfl (gk_t ⟨_, _, hw _, pk ⟨_, clP, rfl⟩⟩)))))))
end
end Go.Proofs.YtcmeadgdojfhnaaGreatDoor
/-
  The reference: CheckDecl.
-/
namespace Go.Proofs.YtcmeadgdojfhnaaGreatDoor
open Go.Tel
attribute [local simp] wNew wBox wBoxZ markT wCond wBuild fillS wO setCells wSt wLd wPart LFE wFad alive wInt wStr wGK wGd wPick wExt wLen wSlen wNot wNil okI ceI okB ceB okS ceS okL ceL okC ceC okO ceO okP ceP okG ceG okE ceE okR ceR okF ceF okX ceX okM ceM okN ceN okNf ceNf okNi ceNi ceA roL roC roO leL leC leO tpP tpC tpO clP clC clO clF clA clT clN clL nbP nbC nbO nbN nbL toPVs
mutual
theorem fvr_eq : ∀ (t : Ty) (u : Nat), ixs t = true → u + size t < 2 ^ 60 → fvr u t = fvs u t
  | .mk k n i ts, u, h, hu => by
    simp only [ixs, Bool.and_eq_true] at h
    simp only [size] at hu
    rw [fvr, fvs, fvrL_eq ts u k 0 h.2 (by omega)]
    cases hk : (k == 5) with
    | false => rfl
    | true =>
      have h1 := h.1
      rw [hk] at h1
      simp at h1
      have : IntKind.i64.wrap (i - u) = i - u := by
        unfold IntKind.wrap
        simp [IntKind.bits, IntKind.signed]
        omega
      rw [this]
theorem fvrL_eq : ∀ (l : List Ty) (u : Nat) (k : Int) (j : Nat), ixsL l = true → u + 1 + sizeL l < 2 ^ 60 → fvrL u k j l = fvsL u k j l
  | [], _, _, _, _, _ => rfl
  | t :: l, u, k, j, h, hu => by
    simp only [ixsL, Bool.and_eq_true] at h
    simp only [sizeL] at hu
    have hb := bnd_le k j
    rw [fvrL, fvsL, fvr_eq t (u + bnd k j) h.1 (by omega), fvrL_eq l u k (j + 1) h.2 (by omega)]
end
section
variable {R : RT}
theorem ld_eptr {s : Sto} {r : List PV} {o : Nat} {v : PV} (h : r[o]? = some v) {K : AV → Prop} (hK : K (.pv v)) : wLd (env R) s none (.eptr r o) K := by
  simp only [wLd, wPart, List.getElem?_map, h, Option.map_some, wO]
  exact hK
theorem ldp_eptr {s : Sto} {r : List PV} {o k : Nat} {ds : List AV} (h : o + k ≤ r.length) (hd : ((r.map AV.pv).drop o).take k = ds) {K : AV → Prop} (hK : K (.agg ds)) : wLd (env R) s (some k) (.eptr r o) K := by
  simp only [wLd, wPart, List.length_map]
  exact ⟨h, by rw [hd]; exact hK⟩
theorem fad_eptr {s : Sto} {r : List PV} {o d : Nat} {K : AV → Prop} (h : K (.eptr r (o + d))) : wFad s (.eptr r o) d K := h
theorem rAny_spec : PureC (env R) 12 [] fun r => r = .agg [I64 0, SS [], I64 0, .capped []] := by
  refine e12 rfl (p12_0 ?_)
  simp [QP, QI]
theorem vparam_spec {ar : Nat} {t : Ty} (h : NT ar t) {x : AV} (hx : TRep t x) : PureC (env R) 98 [x, I64 ar] fun r => r = BB true := by
  have hsz := h.sz
  have V := rvalidate_spec (R := R) (t := t) (by omega) h.ok hx
  have P := rplain_spec (R := R) t (by omega) x hx
  have F := rfreeVars_spec (R := R) (t := t) (by omega) hx
  rw [fvr_eq t 0 h.ix (by omega)] at F
  rw [h.vd] at V
  rw [h.pl] at P
  have hfv := h.fv
  clear h
  generalize fvs 0 t = fv at F hfv
  generalize size t = z at F hsz
  obtain ⟨k, n, i, ts⟩ := t
  obtain ⟨a, rfl, ha⟩ := hx
  refine e98 (u0 := .agg [I64 k, SS n, I64 i, a]) (u1 := I64 ar) (by simp [closeL, close, ha.close]) (p98_0 ?_)
  refine bx_of (cs := [I64 k, SS n, I64 i, a]) rfl (by simp [okS, okI, ha.ok]) (ldk_of (cs := [I64 k, SS n, I64 i, a]) rfl rfl (wCall_pure F ?_))
  rintro y ⟨m, hm, hw, hml⟩
  refine ldk_of (cs := [I64 k, SS n, I64 i, a]) rfl rfl (wCall_pure V ?_)
  rintro _ rfl
  refine in_eql (gk_t (ldk_of (cs := [I64 k, SS n, I64 i, a]) rfl rfl (gk_t (wCall_pure P ?_))))
  rintro _ rfl
  refine pk (gk_t (gk_t (len_of (n := m.length) (by rw [hm.lenA, intRows_len]) (gk_t (in_eql (gk_t ?_))))))
  cases hm0 : m with
  | nil =>
    refine gk_tf (gk_tf (gk_tf (gk_tf (gk_tf (gk_tf (gk_tf (gk_tf (gk_t (pk (pk ⟨_, clP, rfl⟩))))))))))
  | cons w0 m0 =>
    rw [← hm0]
    have hpos : 0 < m.length := by rw [hm0]; simp
    have e : (((m.length : Int)) == 0) = false := by rw [beq_eq_false_iff_ne]; omega
    rw [e]
    obtain ⟨w, hwq⟩ : ∃ w, m[m.length - 1]? = some w := ⟨_, List.getElem?_eq_getElem (by omega)⟩
    have hwl := hfv w (hw w (List.mem_of_getElem? hwq))
    have ei : ((m.length : Int) - 1).toNat = m.length - 1 := by omega
    refine gk_t (gk_t (gk_t (len_of (n := m.length) (by rw [hm.lenA, intRows_len]) (gk_t (in_sub (by omega) (by omega) (gk_t ?_))))))
    refine wIdx_rows hm (row := [.sc (.int .i64 w)]) (by omega) (by rw [ei]; exact intRows_get hwq) rfl (by omega) (gk_t ?_)
    refine ld_eptr (v := .sc (.int .i64 w)) rfl (gk_t (gk_t (in_lss ?_)))
    rw [decide_eq_true hwl]
    exact gk_t (pk (pk ⟨_, clP, rfl⟩))
theorem vd_loop {d : Dc} (hw : DW R d) {cs : List AV} (hc : DcC d cs) {fl : AV} (hf : RowsA fl (rowsF d.fs)) (he7 : cs[7]? = some fl) (he1 : cs[1]? = some (I64 d.ar)) :
    ∀ (j q : Nat), q + j = d.fs.length → P63_3 R 0 0 0 (.ptr 0 0) (I64 q) ⟨[cs], []⟩ (QP fun r => r = BB true) := by
  have hfl := hw.fl
  obtain ⟨c0, cr, hcs⟩ : ∃ c r, cs = c :: r := by
    obtain ⟨nm, ar, ⟨k, n, i, ts⟩, co, fs⟩ := d
    obtain ⟨a, fl, rfl, _⟩ := hc
    exact ⟨_, _, rfl⟩
  have al : alive ⟨[cs], []⟩ 0 = true := by rw [hcs]; rfl
  have g : (⟨[cs], []⟩ : Sto).bs[0]? = some cs := rfl
  intro j
  induction j with
  | zero =>
    intro q hq
    refine p63_3 (fad_of al (ld_of g he7 (len_of (n := d.fs.length) (by rw [hf.lenA, rowsF_len]) (in_lss ?_))))
    rw [decide_eq_false (by omega)]
    exact co_f (p63_5 ⟨_, clP, rfl⟩)
  | succ j ih =>
    intro q hq
    refine p63_3 (fad_of al (ld_of g he7 (len_of (n := d.fs.length) (by rw [hf.lenA, rowsF_len]) (in_lss ?_))))
    rw [decide_eq_true (by omega)]
    obtain ⟨f, hfq⟩ : ∃ f, d.fs[q]? = some f := ⟨_, List.getElem?_eq_getElem (by omega)⟩
    obtain ⟨⟨_, hi2⟩, hnt⟩ := hw.fs f (List.mem_of_getElem? hfq)
    have hP := vparam_spec (R := R) hnt (TRep.of_row f.2)
    have hrow : (rowsF d.fs)[((q : Nat) : Int).toNat]? = some (rowF f) := by simpa using rowsF_get hfq
    have hr0 : (rowF f)[0]? = some (.sc (.string ⟨f.1.toArray⟩)) := rfl
    refine co_t (p63_4 (fad_of al (ld_of g he7 (wIdx_rows hf (row := rowF f) (by omega) hrow (rowF_len f) (by omega) (fad_eptr (ld_eptr hr0 (wCall_pure hi2 ?_)))))))
    rintro _ rfl
    refine nt (gk_t (fad_of al (gk_t (ld_of g he7 (gk_t (gk_t (wIdx_rows hf (row := rowF f) (by omega) hrow (rowF_len f) (by omega) (gk_t (fad_eptr (gk_t ?_))))))))))
    refine ldp_eptr (ds := (rowT f.2).map .pv) (by rw [rowF_len]; omega) (by
      obtain ⟨w, ⟨k, n, i, ts⟩⟩ := f
      rfl) (gk_t (fad_of al (gk_t (ld_of g he1 (gk_t (wCall_pure hP ?_))))))
    rintro _ rfl
    refine gk_t (nt (pk (co_f (p63_6 ?_))))
    have inner : ∀ (j' q' : Nat), q' + j' = q → P63_7 R 0 0 0 (.ptr 0 0) (I64 q) (I64 q') ⟨[cs], []⟩ (QP fun r => r = BB true) := by
      intro j'
      induction j' with
      | zero =>
        intro q' h'
        refine p63_7 (in_lss ?_)
        rw [decide_eq_false (by omega)]
        refine co_f (p63_9 (in_add (by omega) (by omega) ?_))
        have := ih (q + 1) (by omega)
        simpa using this
      | succ j' ih' =>
        intro q' h'
        refine p63_7 (in_lss ?_)
        rw [decide_eq_true (by omega)]
        obtain ⟨f', hfq'⟩ : ∃ f, d.fs[q']? = some f := ⟨_, List.getElem?_eq_getElem (by omega)⟩
        have hrow' : (rowsF d.fs)[((q' : Nat) : Int).toNat]? = some (rowF f') := by simpa using rowsF_get hfq'
        have hr0' : (rowF f')[0]? = some (.sc (.string ⟨f'.1.toArray⟩)) := rfl
        have hne : (f'.1 == f.1) = false := by
          have hn := hw.fd
          have h1 : (d.fs.map (·.1))[q']? = some f'.1 := by simp [hfq']
          have h2 : (d.fs.map (·.1))[q]? = some f.1 := by simp [hfq]
          have hne := List.getElem?_inj (i := q') (j := q) (by simp; omega) hn
          have : f'.1 ≠ f.1 := fun e => by
            have := hne.1 (by rw [h1, h2, e])
            omega
          simpa using this
        refine co_t (p63_8 (fad_of al (ld_of g he7 (wIdx_rows hf (row := rowF f') (by omega) hrow' (rowF_len f') (by omega) (fad_eptr (ld_eptr hr0' ?_))))))
        refine fad_of al (ld_of g he7 (wIdx_rows hf (row := rowF f) (by omega) hrow (rowF_len f) (by omega) (fad_eptr (ld_eptr hr0 (st_eql ?_)))))
        rw [hne]
        refine co_f (p63_10 (in_add (by omega) (by omega) ?_))
        have := ih' (q' + 1) (by omega)
        simpa using this
    exact inner q 0 (by omega)
theorem validDecl_spec {d : Dc} (hw : DW R d) {x : AV} (hx : DRep d x) : PureC (env R) 63 [x] fun r => r = BB true := by
  obtain ⟨cs, rfl, hc⟩ := hx
  obtain ⟨hok, hl8, hid, hcl, _⟩ := hc.ok
  have hlp := @vd_loop R d hw cs hc
  have hP := fun y (hy : TRep d.su y) => vparam_spec (R := R) hw.su hy
  have hE := fun y (hy : TRep d.su y) => tyEqual_spec (R := R) (t := d.su) (t' := .mk 0 [] 0 []) (by have := hw.su.sz; omega) hy (x' := .agg [I64 0, SS [], I64 0, .capped []]) ⟨.capped [], rfl, .capped _⟩
  have hsk := hw.sk
  have hco := hw.co
  obtain ⟨nm, ar, ⟨k, n, i, ts⟩, co, fs⟩ := d
  obtain ⟨a, fl, rfl, ha, hf⟩ := hc
  have hP := hP _ ⟨a, rfl, ha⟩
  have hE := hE _ ⟨a, rfl, ha⟩
  simp only at hP hco hsk
  have al : ∀ r : List (List AV), alive ⟨[SS nm, I64 ar, I64 k, SS n, I64 i, a, BB co, fl] :: r, []⟩ 0 = true := fun _ => rfl
  have h0 : (⟨[[SS nm, I64 ar, I64 k, SS n, I64 i, a, BB co, fl]], []⟩ : Sto).bs[0]? = some [SS nm, I64 ar, I64 k, SS n, I64 i, a, BB co, fl] := rfl
  refine e63 (u0 := .agg [SS nm, I64 ar, I64 k, SS n, I64 i, a, BB co, fl]) (by simp [closeL, close, ha.close, hf.close]) (p63_0 ?_)
  refine bx_of (cs := [SS nm, I64 ar, I64 k, SS n, I64 i, a, BB co, fl]) rfl hok ?_
  show wFad ⟨[[SS nm, I64 ar, I64 k, SS n, I64 i, a, BB co, fl]], []⟩ (.ptr 0 0) _ _
  refine fad_of rfl (ld_of h0 rfl (wCall_pure hw.nm.rid ?_))
  rintro _ rfl
  refine nt (gk_t (fad_of rfl (gk_t (ld_of h0 rfl (gk_t (wCall_pure hw.nm.kw ?_))))))
  rintro _ rfl
  refine pk (gk_t (fad_of rfl (gk_t (ld_of h0 rfl (gk_t (in_lss (pk ?_)))))))
  have e1 : decide ((ar : Int) < 0) = false := by simp
  simp only [e1, cond_false]
  have rest : P63_1 R 0 0 0 (.ptr 0 0) ⟨[[SS nm, I64 ar, I64 k, SS n, I64 i, a, BB co, fl]], []⟩ (QP fun r => r = BB true) := by
    refine p63_1 (fad_of rfl (fad_of rfl (ld_of h0 rfl (in_neq ?_))))
    have tail : P63_2 R 0 0 0 (.ptr 0 0) ⟨[[SS nm, I64 ar, I64 k, SS n, I64 i, a, BB co, fl]], []⟩ (QP fun r => r = BB true) := p63_2 (hlp hf rfl rfl fs.length 0 (by simp))
    rcases hsk with hsk | ⟨n', ts', hsk⟩
    · have hk : k = 0 := by simp only [Ty.mk.injEq] at hsk; exact hsk.1
      subst hk
      refine gk_t (fad_of rfl (gk_t (ldp_of (ds := [I64 0, SS n, I64 i, a]) h0 (by simp) rfl (gk_t (wCall_pure rAny_spec ?_)))))
      rintro _ rfl
      refine gk_t (wCall_pure hE ?_)
      rintro _ ⟨b, rfl, hb⟩
      have : b = true := hb.2 hsk
      subst this
      refine gk_t (nt (pk ?_))
      refine gk_t (fad_of rfl (gk_t (ldp_of (ds := [I64 0, SS n, I64 i, a]) h0 (by simp) rfl (gk_t (fad_of rfl (gk_t (ld_of h0 rfl (gk_t (wCall_pure hP ?_)))))))))
      rintro _ rfl
      refine gk_t (nt (pk ⟨gk_t (fad_of rfl (eqA_ptr _ _)), gk_t (ldp_of (ds := [I64 0, SS n, I64 i, a]) h0 (by simp) rfl ?_), co_f tail⟩))
      simp [Tel.eqA, eqAL, eqP, eqV_int, eqV_str, eqA_rows ha]
    · have hk : k = 2 := by simp only [Ty.mk.injEq] at hsk; exact hsk.1
      subst hk
      refine gk_ft (gk_ft (gk_ft (gk_ft (gk_ft (pk ?_)))))
      refine gk_t (fad_of rfl (gk_t (ldp_of (ds := [I64 2, SS n, I64 i, a]) h0 (by simp) rfl (gk_t (fad_of rfl (gk_t (ld_of h0 rfl (gk_t (wCall_pure hP ?_)))))))))
      rintro _ rfl
      exact gk_t (nt (pk ⟨gk_ft rfl, gk_ft rfl, co_f tail⟩))
  cases co with
  | true =>
    refine gk_t (fad_of rfl ?_)
    refine gk_t (ld_of h0 rfl ?_)
    refine gk_t (nt ?_)
    refine gk_t ?_
    exact gk_ft (gk_ft (gk_ft (gk_ft (gk_t (pk (pk (co_f rest)))))))
  | false =>
    have hfs : fs = [] := by simpa using hco
    subst hfs
    refine gk_t (fad_of rfl ?_)
    refine gk_t (ld_of h0 rfl ?_)
    refine gk_t (nt ?_)
    refine gk_t ?_
    refine gk_t (fad_of rfl ?_)
    refine gk_t (ld_of h0 rfl ?_)
    refine gk_t (len_of (n := 0) (by rw [hf.lenA]; rfl) ?_)
    refine gk_t (in_gtr ?_)
    exact gk_t (pk (pk (co_f rest)))
theorem checkDecl_spec {d : Dc} (hw : DW R d) {x : AV} (hx : DRep d x) : PureC (env R) 35 [x] fun r => r = I64 0 := by
  have hV := validDecl_spec hw hx
  obtain ⟨cs, rfl, hc⟩ := hx
  obtain ⟨hok, hl8, hid, hcl, _⟩ := hc.ok
  have har := hw.ar
  have hfl := hw.fl
  obtain ⟨nm, ar, ⟨k, n, i, ts⟩, co, fs⟩ := d
  obtain ⟨a, fl, rfl, ha, hf⟩ := hc
  simp only at har hfl
  have h0 : (⟨[] ++ [[SS nm, I64 ar, I64 k, SS n, I64 i, a, BB co, fl]], []⟩ : Sto).bs[0]? = some [SS nm, I64 ar, I64 k, SS n, I64 i, a, BB co, fl] := rfl
  refine e35 (u0 := .agg [SS nm, I64 ar, I64 k, SS n, I64 i, a, BB co, fl]) (by simp [closeL, close, ha.close, hf.close]) (p35_0 ?_)
  refine bx_of (cs := [SS nm, I64 ar, I64 k, SS n, I64 i, a, BB co, fl]) rfl hok (ldk_of h0 rfl (wCall_pure hV ?_))
  rintro _ rfl
  refine nt (co_f (p35_1 (fad_of rfl (ld_of h0 rfl (in_gtr ?_)))))
  rw [decide_eq_false (by omega)]
  refine gk_t (fad_of rfl (gk_t (ld_of h0 rfl (gk_t (len_of (n := fs.length) (by rw [hf.lenA, rowsF_len]) (gk_t (in_gtr (pk ?_))))))))
  simp only [cond_false]
  rw [decide_eq_false (by omega)]
  exact co_f (p35_2 ⟨_, clP, rfl⟩)
end
end Go.Proofs.YtcmeadgdojfhnaaGreatDoor
/-
  The reference's hierarchy in memory: Lookup, Knows, Decls.
-/
namespace Go.Proofs.YtcmeadgdojfhnaaGreatDoor
open Go.Tel
structure RS (s : Sto) (q : Nat) (Ds : List Dc) (a : AV) : Prop where
  hb : s.bs[q]? = some [a]
  rw : RowsO a (rowsD Ds)
  nd : (Ds.map (·.nm)).Nodup
  ok : OkS s
  ln : Ds.length ≤ 60
theorem RS.push {s : Sto} {q : Nat} {Ds : List Dc} {a : AV} (h : RS s q Ds a) {c : List AV} (hc : idsLtL (s.bs.length + 1) c = true) : RS ⟨s.bs ++ [c], s.ts⟩ q Ds a :=
  ⟨get_push h.hb c, h.rw, h.nd, OkS.app h.ok hc, h.ln⟩
theorem nd_ne {Ds : List Dc} (hn : (Ds.map (·.nm)).Nodup) {i j : Nat} {d e : Dc} (hi : Ds[i]? = some d) (hj : Ds[j]? = some e) (h : i ≠ j) : d.nm ≠ e.nm := by
  intro he
  have h1 : (Ds.map (·.nm))[i]? = some d.nm := by simp [hi]
  have h2 : (Ds.map (·.nm))[j]? = some e.nm := by simp [hj]
  have hl := (List.getElem?_eq_some_iff.1 hi).1
  exact h ((List.getElem?_inj (i := i) (j := j) (by simpa using hl) hn).1 (by rw [h1, h2, he]))
section
variable {R : RT} {q : Nat} {Ds : List Dc} {a : AV}
theorem lk_loop {s : Sto} (h : RS s q Ds a) {n : List UInt8} {L : Lim} (hro : L.ro ≤ s.bs.length) {w : AV} {cs : List AV} {ok : Bool} (hw : w = .tuple [.agg cs, BB ok])
    (hno : ok = false → cs = Z8 ∧ n ∉ Ds.map (·.nm)) (hyes : ok = true → ∃ (m : Nat) (d : Dc), Ds[m]? = some d ∧ d.nm = n ∧ cs = (rowD d).map .pv) :
    ∀ (j i : Nat), i + j = Ds.length → (∀ (m : Nat) (d : Dc), Ds[m]? = some d → d.nm = n → i ≤ m) → P36_1 R 0 L.ro L.rt (.ptr q 0) (SS n) (.ptr s.bs.length 0) (I64 i) ⟨s.bs ++ [Z8], s.ts⟩ (QM (L.rr 36) s.bs.length fun v s' => v = w ∧ s' = s) := by
  have h' := h.push (c := Z8) (by rfl)
  have g := get_last s.bs Z8
  have hl := h.ln
  have fin : ∀ c, (∀ bs n m, closeL bs n m c = some c) → c = cs → QM (L.rr 36) s.bs.length (fun v s' => v = w ∧ s' = s) (.tuple [.agg c, BB ok]) ⟨s.bs ++ [c], s.ts⟩ := by
    rintro c hc rfl
    refine QM_tup h.ok (x' := .agg c) (y' := BB ok) (by simp [closeL, close, hc]) ⟨hw.symm, rfl⟩
  intro j
  induction j with
  | zero =>
    intro i hi hm
    have hf : ok = false := by
      cases ok with
      | false => rfl
      | true =>
        obtain ⟨m, d, h1, h2, _⟩ := hyes rfl
        have := hm m d h1 h2
        have := (List.getElem?_eq_some_iff.1 h1).1
        omega
    subst hf
    refine p36_1 (nil_of (al_of h'.hb) (fad_of (al_of h'.hb) (ld_of h'.hb rfl (len_of (n := Ds.length) (by rw [h.rw.lenA, rowsD_len]) (in_lss ?_)))))
    rw [decide_eq_false (by omega)]
    refine co_f (p36_3 (bd_of (cs := Z8) rfl (st_all g rfl rfl (by decide) (by simp [LFE]; omega) (by rfl) (.inl (Nat.zero_le _)) (ldk_of (get_self g) rfl ?_))))
    simp only [set_last]
    exact fin Z8 (fun _ _ _ => rfl) (hno rfl).1.symm
  | succ j ih =>
    intro i hi hm
    refine p36_1 (nil_of (al_of h'.hb) (fad_of (al_of h'.hb) (ld_of h'.hb rfl (len_of (n := Ds.length) (by rw [h.rw.lenA, rowsD_len]) (in_lss ?_)))))
    rw [decide_eq_true (by omega)]
    obtain ⟨d, hd⟩ : ∃ d, Ds[i]? = some d := ⟨_, List.getElem?_eq_getElem (by omega)⟩
    have hrow : (rowsD Ds)[((i : Nat) : Int).toNat]? = some (rowD d) := by simpa using rowsD_get hd
    refine co_t (p36_2 (nil_of (al_of h'.hb) (fad_of (al_of h'.hb) (ld_of h'.hb rfl (wIdx_rowsO h.rw (row := rowD d) (by omega) hrow (rowD_len d) (by omega) (fad_eptr (ld_eptr (v := .sc (.string ⟨d.nm.toArray⟩)) rfl (st_eql ?_))))))))
    cases he : (d.nm == n) with
    | true =>
      have hen : d.nm = n := by simpa using he
      have hf : ok = true := by
        cases ok with
        | true => rfl
        | false => exact absurd (List.mem_map.2 ⟨d, List.mem_of_getElem? hd, hen⟩) (hno rfl).2
      subst hf
      obtain ⟨m, d', h1, h2, h3⟩ := hyes rfl
      have hdd : d' = d := by
        by_cases e : i = m
        · rw [e, h1] at hd; exact Option.some.inj hd
        · exact absurd (by rw [hen, h2]) (nd_ne h.nd hd h1 e)
      subst hdd
      obtain ⟨es, hes, hed⟩ := DRep.of_row d'
      cases hes
      obtain ⟨w1, w2, w3, _, w5⟩ := hed.ok
      refine co_t (nil_of (al_of h'.hb) (fad_of (al_of h'.hb) (ld_of h'.hb rfl (wIdx_rowsO h.rw (row := rowD d') (by omega) hrow (rowD_len d') (by omega) (ldrow (rowD_len d') ?_)))))
      refine st_all g w2 rfl (by decide) (by simp [LFE]; omega) w1 (.inl (Nat.zero_le _)) (ldk_of (get_self g) w2 ?_)
      simp only [set_last]
      exact fin _ w5 h3.symm
    | false =>
      have hen : d.nm ≠ n := by simpa using he
      refine co_f (p36_4 (in_add (by omega) (by omega) ?_))
      have := ih (i + 1) (by omega) (fun m d' h1 h2 => by
        have := hm m d' h1 h2
        by_cases e : i = m
        · rw [e, h1] at hd
          cases hd
          exact absurd h2 hen
        · omega)
      simpa using this
theorem lookup_none {s : Sto} (h : RS s q Ds a) {n : List UInt8} (hn : n ∉ Ds.map (·.nm)) {L : Lim} (hro : L.ro ≤ s.bs.length) : CallE (env R) L 36 [.ptr q 0, SS n] s (.tuple [.agg Z8, BB false]) s := by
  refine rdc (m36 (by rfl) (p36_0 (new_of ?_)))
  exact lk_loop h hro rfl (fun _ => ⟨rfl, hn⟩) (fun h => by cases h) Ds.length 0 (by omega) (fun m d _ _ => Nat.zero_le _)
theorem lookup_some {s : Sto} (h : RS s q Ds a) {m : Nat} {d : Dc} (hm : Ds[m]? = some d) {L : Lim} (hro : L.ro ≤ s.bs.length) : CallE (env R) L 36 [.ptr q 0, SS d.nm] s (.tuple [.agg ((rowD d).map .pv), BB true]) s := by
  refine rdc (m36 (by rfl) (p36_0 (new_of ?_)))
  exact lk_loop h hro rfl (fun h => by cases h) (fun _ => ⟨m, d, hm, rfl, rfl⟩) Ds.length 0 (by omega) (fun m d _ _ => Nat.zero_le _)
mutual
theorem rknows_spec : ∀ (t : Ty), kn Ds t → size t < 2 ^ 38 → ∀ (x : AV), TRep t x → ∀ (s : Sto), RS s q Ds a → ∀ L : Lim, L.ro ≤ s.bs.length → CallE (env R) L 38 [.ptr q 0, x] s (BB true) s
  | .mk k n i ts, hk, hz, x, hx, s, h, L, hro => by
    rw [kn] at hk
    obtain ⟨y, rfl, hy⟩ := hx
    simp only [size] at hz
    have h60 := sizeL_len ts
    have h1 := h.push (c := [I64 k, SS n, I64 i, y]) (by simp [idsLtL, idsLt, hy.idsLt])
    have g1 := get_last s.bs [I64 k, SS n, I64 i, y]
    have loop : ∀ (s1 : Sto), RS s1 q Ds a → s1.bs[s.bs.length]? = some [I64 k, SS n, I64 i, y] → s1.bs.take s.bs.length = s.bs → s1.ts = s.ts → ∀ (j i' : Nat), i' + j = ts.length → P38_2 R 0 L.ro L.rt (.ptr q 0) (.ptr s.bs.length 0) (I64 i') s1 (QM (L.rr 38) s.bs.length fun v s' => v = BB true ∧ s' = s) := by
      intro s1 h1 g hT hts j
      have hl1 := (List.getElem?_eq_some_iff.1 g).1
      induction j with
      | zero =>
        intro i' hi
        refine p38_2 (fad_of (al_of g) (ld_of g rfl (len_of (n := ts.length) (by rw [hy.lenA, rowsT_len]) (in_lss ?_))))
        rw [decide_eq_false (by omega)]
        refine co_f (p38_4 (QM_pv ?_ ⟨rfl, by rw [hT, hts]⟩))
        rw [hT, List.all_eq_true]
        exact h.ok
      | succ j ih =>
        intro i' hi
        refine p38_2 (fad_of (al_of g) (ld_of g rfl (len_of (n := ts.length) (by rw [hy.lenA, rowsT_len]) (in_lss ?_))))
        rw [decide_eq_true (by omega)]
        obtain ⟨t, ht⟩ : ∃ t, ts[i']? = some t := ⟨_, List.getElem?_eq_getElem (by omega)⟩
        refine co_t (p38_3 (fad_of (al_of g) (ld_of g rfl (wIdx_rows hy (row := rowT t) (by omega) (by simpa using rowsT_get ht) (rowT_len t) (by omega) (ld_row ⟨_, _, rknowsL_spec ts hk.2 (by omega) t (List.mem_of_getElem? ht) s1 h1 _ (by simp [LFE]; omega), nt (co_f (p38_5 (in_add (by omega) (by omega) ?_)))⟩)))))
        have := ih (i' + 1) (by omega)
        simpa using this
    refine rdc (m38 (by rfl) (p38_0 (bx_of (cs := [I64 k, SS n, I64 i, y]) rfl (by simp [okS, okI, hy.ok]) ?_)))
    refine fad_of (al_of g1) (ld_of g1 rfl (in_eql ?_))
    by_cases h2k : k = 2
    · subst h2k
      obtain ⟨m, d, hq, rfl, har⟩ := hk.1 rfl
      obtain ⟨es, hes, hed⟩ := DRep.of_row d
      cases hes
      obtain ⟨w1, w2, w3, _, w5⟩ := hed.ok
      have e1 : ((rowD d).map AV.pv)[1]? = some (I64 d.ar) := by simp [rowD]
      obtain ⟨u0, ur, hur⟩ : ∃ c r, (rowD d).map AV.pv = c :: r := ⟨_, _, rfl⟩
      refine co_t (fad_of (al_of g1) (ld_of g1 rfl ⟨_, _, lookup_some h1 hq (by simp [LFE]; omega), ex_of rfl (ex_of rfl (new_of ?_))⟩))
      refine st_all (get_last _ _) w2 rfl (by decide) (by simp [LFE]; omega) w1 (.inl (Nat.zero_le _)) ?_
      simp only [set_last]
      have g2 := get_push g1 ((rowD d).map AV.pv)
      have g3 := get_last (s.bs ++ [[I64 2, SS d.nm, I64 i, y]]) ((rowD d).map AV.pv)
      have al2 : alive ⟨s.bs ++ [[I64 2, SS d.nm, I64 i, y]] ++ [(rowD d).map AV.pv], s.ts⟩ (s.bs ++ [[I64 2, SS d.nm, I64 i, y]]).length = true := by
        rw [hur] at g3 ⊢; exact al_of g3
      refine nt (gk_t (fad_of al2 (gk_t (ld_of g3 e1 (gk_t (fad_of (al_of g2) (gk_t (ld_of g2 rfl (gk_t (len_of (n := ts.length) (by rw [hy.lenA, rowsT_len]) (gk_t (in_neq (pk ?_)))))))))))))
      rw [har]
      simp only [bne_self_eq_false, Bool.not_true, cond_false]
      refine co_f (p38_1 (loop _ (h1.push (w3 _)) g2 ?_ rfl ts.length 0 (by omega)))
      simp
    · have b2 : (k == 2) = false := by simpa using h2k
      rw [b2]
      exact co_f (p38_1 (loop _ h1 g1 (by simp) rfl ts.length 0 (by omega)))
theorem rknowsL_spec : ∀ (l : List Ty), knL Ds l → sizeL l < 2 ^ 38 → ∀ t ∈ l, ∀ (s : Sto), RS s q Ds a → ∀ L : Lim, L.ro ≤ s.bs.length → CallE (env R) L 38 [.ptr q 0, .agg ((rowT t).map .pv)] s (BB true) s
  | [], _, _, _, h, _, _, _, _ => by cases h
  | e :: l, hk, hz, t, hm, s, h, L, hro => by
    rw [knL] at hk
    simp only [sizeL] at hz
    rcases List.mem_cons.1 hm with h' | h'
    · rw [h']
      exact rknows_spec e hk.1 (by omega) _ (TRep.of_row e) s h L hro
    · exact rknowsL_spec l hk.2 (by omega) t h' s h L hro
end
theorem rdecls_spec {s : Sto} (h : RS s q Ds a) {L : Lim} (hrt : L.rt = 0) : ∃ v s', (Apd 0 s'.ts 36 v (rowsD Ds) ∧ Fresh v s.ts ∧ s'.bs = s.bs ∧ KeepT s.ts s'.ts) ∧ CallE (env R) L 6 [.ptr q 0] s v s' := by
  have hl := h.ln
  have hlen := rowsD_len Ds
  refine m6 (by rfl) (p6_0 ?_)
  simp [wBsl, repl, fillS, wO, toPVs, rowsBy]
  refine nil_of (al_of h.hb) (fad_of (al_of h.hb) (ld_of h.hb rfl ?_))
  refine wApp_k (rows := []) (m := rowsD Ds) (.inl rfl) (by simp [LFE, hrt]) (by simp) (fun r hr => rowsD_row hr) (by omega) (srcCells_rows h.rw (fun r hr => rowsD_row hr)) ?_ (by simp [hlen]; omega) (by simp [hlen]; omega) ?_
  · rw [List.all_eq_true]
    intro c hc
    obtain ⟨p, hp, rfl⟩ := List.mem_map.1 hc
    obtain ⟨r, hr, hpr⟩ := List.mem_flatten.1 hp
    simp only [rowsD, List.mem_map] at hr
    obtain ⟨d, _, rfl⟩ := hr
    exact List.all_eq_true.1 (rowD_ok d) _ (List.mem_map_of_mem hpr)
  · intro a' ts' hA hch
    obtain ⟨h1, h2⟩ := Chg.keepT (ts0 := s.ts) hch (fun t ht => by cases ht) (KeepT.refl _)
    have := QM_apdD (rr := L.rr 6) (m := []) h.ok (ts := ts') (v := a') (k := 36) (rows := rowsD Ds) (by simpa using hA) (Post := fun v s' => Apd 0 s'.ts 36 v (rowsD Ds) ∧ Fresh v s.ts ∧ s'.bs = s.bs ∧ KeepT s.ts s'.ts) ⟨by simpa using hA, h2, rfl, h1⟩
    simpa using this
end
end Go.Proofs.YtcmeadgdojfhnaaGreatDoor
/-
  The reference's Declare, where it succeeds.
-/
namespace Go.Proofs.YtcmeadgdojfhnaaGreatDoor
open Go.Tel
theorem eqA_dc {d : Dc} {cs : List AV} (h : DcC d cs) : Tel.eqA (.agg cs) (.agg cs) = true := by
  obtain ⟨nm, ar, ⟨k, n, i, ts⟩, co, fs⟩ := d
  obtain ⟨a, fl, rfl, ha, hf⟩ := h
  have h1 : Tel.eqA fl fl = true := by
    rcases hf with rfl | rfl <;> simp [Tel.eqA, eqP, eqPLL_rowsF]
  have h2 : Tel.eqA (BB co) (BB co) = true := by cases co <;> rfl
  simp only [Tel.eqA, eqAL, Bool.and_true, Bool.and_eq_true]
  exact ⟨eqA_SS _, eqA_I64 _, eqA_I64 _, eqA_SS _, eqA_I64 _, eqA_rows ha, h2, h1⟩
section
variable {R : RT} {q : Nat} {Ds : List Dc} {a : AV}
theorem rdeclare_spec {s : Sto} (h : RS s q Ds a) {d : Dc} (hd : DOk R Ds d) (hl : Ds.length < 60) {x : AV} (hx : DRep d x) {L : Lim} (hro : L.ro = 0) (hrt : L.rt = 0) : ∃ v s', (v = I64 0 ∧ s'.bs.length = s.bs.length ∧ (∀ j, j ≠ q → s'.bs[j]? = s.bs[j]?) ∧ KeepT s.ts s'.ts ∧ ∃ a', RS s' q (Ds ++ [d]) a') ∧ CallE (env R) L 17 [.ptr q 0, x] s v s' := by
  obtain ⟨cs, rfl, hc⟩ := hx
  obtain ⟨hok, hl8, hid, _, hcl⟩ := hc.ok
  have hW := checkDecl_spec hd.wf ⟨cs, rfl, hc⟩
  have hq := (List.getElem?_eq_some_iff.1 h.hb).1
  have hsz := hd.wf.su.sz
  have hfll := hd.wf.fl
  have heq := eqA_dc hc
  have hpv := hc.toPV
  obtain ⟨c0, cr, hcs⟩ : ∃ c r, cs = c :: r := by
    cases cs with
    | nil => simp at hl8
    | cons c r => exact ⟨_, _, rfl⟩
  obtain ⟨kk, nn, ii, tt, hsu⟩ : ∃ k n i ts, d.su = .mk k n i ts := by
    cases d.su with
    | mk k n i ts => exact ⟨_, _, _, _, rfl⟩
  have hcells : ∃ y fl, cs = [SS d.nm, I64 d.ar, I64 kk, SS nn, I64 ii, y, BB d.co, fl] ∧ RowsA y (rowsT tt) ∧ RowsA fl (rowsF d.fs) := by
    unfold DcC at hc
    rw [hsu] at hc
    exact hc
  obtain ⟨y, fl, hce, hy, hfl⟩ := hcells
  have hsup : TRep d.su (.agg [I64 kk, SS nn, I64 ii, y]) := by rw [hsu]; exact ⟨y, rfl, hy⟩
  have al : ∀ {bs : List (List AV)} {ts : List (Nat × Nat)} {j : Nat}, bs[j]? = some cs → alive ⟨bs, ts⟩ j = true := by
    intro bs ts j hj
    rw [hcs] at hj
    exact al_of hj
  have e0 : cs[0]? = some (SS d.nm) := by rw [hce]; rfl
  have e3 : cs[3]? = some (SS nn) := by rw [hce]; rfl
  have e7 : cs[7]? = some fl := by rw [hce]; rfl
  have hpart : (cs.drop (0 + 2)).take 4 = [I64 kk, SS nn, I64 ii, y] := by rw [hce]; rfl
  have hsk := hd.wf.sk
  have hab := hd.ab
  rw [hsu] at hsk hab
  have h1 := h.push (hid (s.bs.length + 1))
  have h2 := h1.push (c := Z8) (by rfl)
  have g0 := get_last s.bs cs
  have g0' := get_push g0 Z8
  clear hc
  refine m17 (by rfl) (p17_0 (bx_of (cs := cs) rfl hok (ldk_of g0 hl8 (wCall_pure hW ?_))))
  rintro _ rfl
  refine in_neq (co_f (p17_1 (fad_of (al g0) (ld_of g0 e0 ⟨_, _, lookup_none h1 hd.new (by simp [LFE, hro]), ex_of rfl (ex_of rfl (new_of ?_))⟩))))
  refine st_all (get_last _ _) rfl rfl (by decide) (by simp [LFE, hro]) (by rfl) (.inl (Nat.zero_le _)) ?_
  simp only [set_last]
  refine co_f (p17_3 (nil_of (al_of h2.hb) (fad_of (al_of h2.hb) (ld_of h2.hb rfl (len_of (n := Ds.length) (by rw [h2.rw.lenA, rowsD_len]) (in_geq ?_))))))
  rw [decide_eq_false (by omega)]
  refine co_f (p17_4 (wCall_do (rdecls_spec h2 (L := LFE (env R) 17 0 L.ro L.rt) (by simp [LFE, hrt])) ?_))
  rintro v ⟨bs3, ts3⟩ ⟨hA, hF, rfl, hK⟩
  simp only at hA hF hK
  refine ldk_of g0' hl8 (bsl_row (row := rowD d) rfl hl8 (by omega) (by omega) hok hpv (rowD_len d) ⟨by decide, app_dK hA (by simp [LFE, hrt]) (by omega) ?_⟩)
  intro v' ts4 hA' hch
  obtain ⟨hK', hF'⟩ := Chg.keepT hch hF hK
  have hv' := hA'.rowsO
  refine bd_of (cs := [v']) (by simp [fillS, setCells, hv'.cells, hv'.ok]) (bx_of (cs := [v']) rfl (by simp [hv'.ok]) ⟨ldk_of g0' hl8 heq, ?_⟩)
  have okv : idsLtL ((s.bs ++ [cs] ++ [Z8]).length + 1) [v'] = true := by simp [idsLtL, hv'.idsLt]
  have hnd : ((Ds ++ [d]).map (·.nm)).Nodup := by
    rw [List.map_append, List.nodup_append]
    refine ⟨h.nd, by simp, fun u hu w hw => ?_⟩
    simp only [List.map_cons, List.map_nil, List.mem_singleton] at hw
    subst hw
    exact fun e => hd.new (e ▸ hu)
  have h3 : RS ⟨s.bs ++ [cs] ++ [Z8] ++ [[v']], ts4⟩ q Ds a := ⟨get_push h2.hb _, h.rw, h.nd, OkS.app (s := ⟨s.bs ++ [cs] ++ [Z8], ts4⟩) h2.ok okv, h.ln⟩
  have gE := get_last (s.bs ++ [cs] ++ [Z8]) [v']
  have hE : RS ⟨s.bs ++ [cs] ++ [Z8] ++ [[v']], ts4⟩ (s.bs ++ [cs] ++ [Z8]).length (Ds ++ [d]) v' := ⟨gE, hv', hnd, h3.ok, by simp; omega⟩
  have k0 := get_push g0' [v']
  have hlen3 : (s.bs ++ [cs] ++ [Z8]).length = s.bs.length + 2 := by simp
  refine fad_of (al k0) (ldp_of (ds := [I64 kk, SS nn, I64 ii, y]) k0 (by omega) hpart ⟨_, _, rknows_spec d.su hd.su (by omega) _ hsup _ h3 _ (by simp [LFE, hro]), nt (co_f (p17_5 ?_))⟩)
  have fin : ∀ (m : List (List AV)), P17_10 R 0 L.ro L.rt (.ptr q 0) (.ptr (s.bs ++ [cs] ++ [Z8]).length 0) ⟨s.bs ++ [cs] ++ [Z8] ++ [[v']] ++ m, ts4⟩ (QM (L.rr 17) s.bs.length fun v s' => v = I64 0 ∧ s'.bs.length = s.bs.length ∧ (∀ j, j ≠ q → s'.bs[j]? = s.bs[j]?) ∧ KeepT s.ts s'.ts ∧ ∃ a', RS s' q (Ds ++ [d]) a') := by
    intro m
    have gE' : (s.bs ++ [cs] ++ [Z8] ++ [[v']] ++ m)[(s.bs ++ [cs] ++ [Z8]).length]? = some [v'] := by
      rw [List.getElem?_append_left (by simp)]; exact gE
    have gq : (s.bs ++ [cs] ++ [Z8] ++ [[v']] ++ m)[q]? = some [a] := by
      rw [List.getElem?_append_left (by simp; omega)]; exact h3.hb
    refine p17_10 (nil_of (al_of gE') (fad_of (al_of gE') (ld_of gE' rfl (nil_of (al_of gq) (fad_of (al_of gq) (st_one gq (by simp) hv'.cells (by simp [LFE, hro]) hv'.ok (.inl (Nat.zero_le _)) ?_))))))
    simp only [List.set_cons_zero, Nat.add_zero]
    have ht : ((s.bs ++ [cs] ++ [Z8] ++ [[v']] ++ m).set q [v']).take s.bs.length = s.bs.set q [v'] := by
      rw [List.take_set]
      simp
    have hOk : OkS ⟨s.bs.set q [v'], ts4⟩ := OkS.set (s := s) h.ok (by simp [idsLtL, hv'.idsLt]) _
    refine QM_pv ?_ ?_
    · rw [ht, List.all_eq_true]
      intro c hc
      have := hOk c hc
      simpa using this
    · rw [ht]
      refine ⟨rfl, by simp, fun j hj => by show (s.bs.set q [v'])[j]? = _; rw [List.getElem?_set_ne (Ne.symm hj)], hK', v', get_self h.hb, hv', hnd, hOk, by simp; omega⟩
  have tail : P17_8 R 0 L.ro L.rt (.ptr q 0) (.ptr s.bs.length 0) (.ptr (s.bs ++ [cs] ++ [Z8]).length 0) ⟨s.bs ++ [cs] ++ [Z8] ++ [[v']], ts4⟩ (QM (L.rr 17) s.bs.length fun v s' => v = I64 0 ∧ s'.bs.length = s.bs.length ∧ (∀ j, j ≠ q → s'.bs[j]? = s.bs[j]?) ∧ KeepT s.ts s'.ts ∧ ∃ a', RS s' q (Ds ++ [d]) a') := by
    refine p17_8 (fad_of (al k0) (fad_of (al k0) (ld_of k0 e3 ?_)))
    rcases hsk with hsk | ⟨n', ts', hsk⟩
    · simp only [Ty.mk.injEq] at hsk
      obtain ⟨rfl, rfl, rfl, rfl⟩ := hsk
      have hnil : [] ∉ Ds.map (·.nm) := fun hm => hd.nil (by rw [List.map_append]; exact List.mem_append_left _ hm)
      refine ⟨_, _, lookup_none h3 hnil (by simp [LFE, hro]), ex_of rfl (ex_of rfl (new_of ?_))⟩
      refine st_all (get_last _ _) rfl rfl (by decide) (by simp [LFE, hro]) (by rfl) (.inl (Nat.zero_le _)) ?_
      simp only [set_last]
      exact gk_ft (gk_ft (pk (co_f (fin [Z8]))))
    · simp only [Ty.mk.injEq] at hsk
      obtain ⟨rfl, rfl, rfl, rfl⟩ := hsk
      obtain ⟨m, e, hm, hen, hec⟩ := hab _ _ rfl
      have hF := lookup_some (R := R) h3 hm (L := LFE (env R) 17 0 L.ro L.rt) (by simp [LFE, hro])
      rw [hen] at hF
      obtain ⟨es, hes, hed⟩ := DRep.of_row e
      cases hes
      obtain ⟨w1, w2, _⟩ := hed.ok
      have e6 : ((rowD e).map AV.pv)[6]? = some (BB e.co) := by
        obtain ⟨nm, ar, ⟨k, n, i, ts⟩, co, fs⟩ := e
        rfl
      obtain ⟨u0, ur, hur⟩ : ∃ c r, (rowD e).map AV.pv = c :: r := ⟨_, _, rfl⟩
      refine ⟨_, _, hF, ex_of rfl (ex_of rfl (new_of ?_))⟩
      refine st_all (get_last _ _) w2 rfl (by decide) (by simp [LFE, hro]) w1 (.inl (Nat.zero_le _)) ?_
      simp only [set_last]
      have m2' := get_last (s.bs ++ [cs] ++ [Z8] ++ [[v']]) ((rowD e).map AV.pv)
      have al2 : alive ⟨s.bs ++ [cs] ++ [Z8] ++ [[v']] ++ [(rowD e).map AV.pv], ts4⟩ (s.bs ++ [cs] ++ [Z8] ++ [[v']]).length = true := by
        rw [hur]; exact al_of (get_last _ _)
      refine gk_t (fad_of al2 (gk_t (ld_of m2' e6 (pk ?_))))
      rw [hec]
      exact co_f (fin [(rowD e).map AV.pv])
  have loop : ∀ (j i : Nat), i + j = d.fs.length → P17_6 R 0 L.ro L.rt (.ptr q 0) (.ptr s.bs.length 0) (.ptr (s.bs ++ [cs] ++ [Z8]).length 0) (I64 i) ⟨s.bs ++ [cs] ++ [Z8] ++ [[v']], ts4⟩ (QM (L.rr 17) s.bs.length fun v s' => v = I64 0 ∧ s'.bs.length = s.bs.length ∧ (∀ j, j ≠ q → s'.bs[j]? = s.bs[j]?) ∧ KeepT s.ts s'.ts ∧ ∃ a', RS s' q (Ds ++ [d]) a') := by
    intro j
    induction j with
    | zero =>
      intro i hi
      refine p17_6 (fad_of (al k0) (ld_of k0 e7 (len_of (n := d.fs.length) (by rw [hfl.lenA, rowsF_len]) (in_lss ?_))))
      rw [decide_eq_false (by omega)]
      exact co_f tail
    | succ j ih =>
      intro i hi
      refine p17_6 (fad_of (al k0) (ld_of k0 e7 (len_of (n := d.fs.length) (by rw [hfl.lenA, rowsF_len]) (in_lss ?_))))
      rw [decide_eq_true (by omega)]
      obtain ⟨f, hfq⟩ : ∃ f, d.fs[i]? = some f := ⟨_, List.getElem?_eq_getElem (by omega)⟩
      have hmem := List.mem_of_getElem? hfq
      have hK2 := rknows_spec (R := R) f.2 (hd.fs f hmem) (by have := (hd.wf.fs f hmem).2.sz; omega) _ (TRep.of_row f.2) _ hE
      refine co_t (p17_7 (fad_of (al k0) (ld_of k0 e7 (wIdx_rows hfl (row := rowF f) (by omega) (by simpa using rowsF_get hfq) (rowF_len f) (by omega) (fad_eptr ?_)))))
      refine ldp_eptr (ds := (rowT f.2).map .pv) (by rw [rowF_len]; omega) (by
        obtain ⟨w, ⟨k, n, i, ts⟩⟩ := f
        rfl) ⟨_, _, hK2 _ (by simp [LFE, hro]), nt (co_f (p17_9 (in_add (by omega) (by omega) ?_)))⟩
      have := ih (i + 1) (by omega)
      simpa using this
  exact loop d.fs.length 0 (by omega)
end
end Go.Proofs.YtcmeadgdojfhnaaGreatDoor
/-
  The reference: DeclsEqual.
-/
namespace Go.Proofs.YtcmeadgdojfhnaaGreatDoor
open Go.Tel
section
variable {R : RT}
theorem bo_neq {x y : Bool} {K : AV → Prop} (h : K (BB (x != y))) : wBool .neq (BB x) (BB y) K := by
  simp only [wBool]
  cases x <;> cases y <;> exact h
theorem bo_eql {x y : Bool} {K : AV → Prop} (h : K (BB (x == y))) : wBool .eql (BB x) (BB y) K := by
  simp only [wBool]
  cases x <;> cases y <;> exact h
theorem teq_refl {t : Ty} (h : size t < 2 ^ 38) {x y : AV} (hx : TRep t x) (hy : TRep t y) : PureC (env R) 64 [x, y] fun r => r = BB true := by
  obtain ⟨v, ⟨b, rfl, hb⟩, hc⟩ := tyEqual_spec (R := R) h hx hy
  have : b = true := hb.2 rfl
  exact ⟨BB b, by rw [this], hc⟩
theorem declEqual_spec {d : Dc} (hd : DSm d) {x y : AV} (hx : DRep d x) (hy : DRep d y) : PureC (env R) 37 [x, y] fun r => r = BB true := by
  obtain ⟨cs, rfl, hc⟩ := hx
  obtain ⟨cs', rfl, hc'⟩ := hy
  obtain ⟨hok, _⟩ := hc.ok
  obtain ⟨hok', _⟩ := hc'.ok
  have hfl := hd.fl
  have hT := fun x y (hx : TRep d.su x) (hy : TRep d.su y) => teq_refl (R := R) hd.su.1 hx hy
  have hfs := hd.fs
  obtain ⟨nm, ar, ⟨k, n, i, ts⟩, co, fs⟩ := d
  obtain ⟨a, fl, rfl, ha, hf⟩ := hc
  obtain ⟨a', fl', rfl, ha', hf'⟩ := hc'
  have hT := hT _ _ ⟨a, rfl, ha⟩ ⟨a', rfl, ha'⟩
  simp only at hT hfs hfl
  refine e37 (u0 := .agg [SS nm, I64 ar, I64 k, SS n, I64 i, a, BB co, fl]) (u1 := .agg [SS nm, I64 ar, I64 k, SS n, I64 i, a', BB co, fl']) (by simp [closeL, close, ha.close, hf.close, ha'.close, hf'.close]) (p37_0 ?_)
  refine bx_of (cs := [SS nm, I64 ar, I64 k, SS n, I64 i, a, BB co, fl]) rfl hok (bx_of (cs := [SS nm, I64 ar, I64 k, SS n, I64 i, a', BB co, fl']) rfl hok' ?_)
  show wFad ⟨[[SS nm, I64 ar, I64 k, SS n, I64 i, a, BB co, fl], [SS nm, I64 ar, I64 k, SS n, I64 i, a', BB co, fl']], []⟩ (.ptr 0 0) _ _
  have h0 : (⟨[[SS nm, I64 ar, I64 k, SS n, I64 i, a, BB co, fl], [SS nm, I64 ar, I64 k, SS n, I64 i, a', BB co, fl']], []⟩ : Sto).bs[0]? = some [SS nm, I64 ar, I64 k, SS n, I64 i, a, BB co, fl] := rfl
  have h1 : (⟨[[SS nm, I64 ar, I64 k, SS n, I64 i, a, BB co, fl], [SS nm, I64 ar, I64 k, SS n, I64 i, a', BB co, fl']], []⟩ : Sto).bs[1]? = some [SS nm, I64 ar, I64 k, SS n, I64 i, a', BB co, fl'] := rfl
  refine fad_of rfl (ld_of h0 rfl (fad_of rfl (ld_of h1 rfl (st_neq ?_))))
  rw [show (nm != nm) = false by simp]
  refine gk_t (fad_of rfl (gk_t (ld_of h0 rfl (gk_t (fad_of rfl (gk_t (ld_of h1 rfl (gk_t (in_neq ?_)))))))))
  rw [show ((ar : Int) != ar) = false by simp]
  refine pk (gk_t (fad_of rfl (gk_t (ld_of h0 rfl (gk_t (fad_of rfl (gk_t (ld_of h1 rfl (gk_t (bo_neq ?_))))))))))
  rw [show (co != co) = false by simp]
  refine pk (gk_t (fad_of rfl (gk_t (ldp_of (ds := [I64 k, SS n, I64 i, a]) h0 (by simp) rfl (gk_t (fad_of rfl (gk_t (ldp_of (ds := [I64 k, SS n, I64 i, a']) h1 (by simp) rfl (gk_t (wCall_pure hT ?_))))))))))
  rintro _ rfl
  refine gk_t (nt (pk ?_))
  refine gk_t (fad_of rfl (gk_t (ld_of h0 rfl (gk_t (len_of (n := fs.length) (by rw [hf.lenA, rowsF_len]) (gk_t (fad_of rfl (gk_t (ld_of h1 rfl (gk_t (len_of (n := fs.length) (by rw [hf'.lenA, rowsF_len]) (gk_t (in_neq ?_)))))))))))))
  rw [show ((fs.length : Int) != fs.length) = false by simp]
  refine pk (co_f (p37_1 ?_))
  have loop : ∀ (j q : Nat), q + j = fs.length → P37_2 R 0 0 0 (.ptr 0 0) (.ptr 1 0) (I64 q) ⟨[[SS nm, I64 ar, I64 k, SS n, I64 i, a, BB co, fl], [SS nm, I64 ar, I64 k, SS n, I64 i, a', BB co, fl']], []⟩ (QP fun r => r = BB true) := by
    intro j
    induction j with
    | zero =>
      intro q hq
      refine p37_2 (fad_of rfl (ld_of h0 rfl (len_of (n := fs.length) (by rw [hf.lenA, rowsF_len]) (in_lss ?_))))
      rw [decide_eq_false (by omega)]
      exact co_f (p37_4 ⟨_, clP, rfl⟩)
    | succ j ih =>
      intro q hq
      refine p37_2 (fad_of rfl (ld_of h0 rfl (len_of (n := fs.length) (by rw [hf.lenA, rowsF_len]) (in_lss ?_))))
      rw [decide_eq_true (by omega)]
      obtain ⟨f, hfq⟩ : ∃ f, fs[q]? = some f := ⟨_, List.getElem?_eq_getElem (by omega)⟩
      have hrow : (rowsF fs)[((q : Nat) : Int).toNat]? = some (rowF f) := by simpa using rowsF_get hfq
      have hr0 : (rowF f)[0]? = some (.sc (.string ⟨f.1.toArray⟩)) := rfl
      have hT2 := teq_refl (R := R) (hfs f (List.mem_of_getElem? hfq)).1 (TRep.of_row f.2) (TRep.of_row f.2)
      have hp : (((rowF f).map AV.pv).drop (0 + 1)).take 4 = (rowT f.2).map .pv := by
        obtain ⟨w, ⟨k, n, i, ts⟩⟩ := f
        rfl
      refine co_t (p37_3 (fad_of rfl (ld_of h0 rfl (wIdx_rows hf (row := rowF f) (by omega) hrow (rowF_len f) (by omega) (fad_eptr (ld_eptr hr0 ?_))))))
      refine fad_of rfl (ld_of h1 rfl (wIdx_rows hf' (row := rowF f) (by omega) hrow (rowF_len f) (by omega) (fad_eptr (ld_eptr hr0 (st_neq ?_)))))
      rw [show (f.1 != f.1) = false by simp]
      refine gk_t (fad_of rfl (gk_t (ld_of h0 rfl (gk_t (gk_t (wIdx_rows hf (row := rowF f) (by omega) hrow (rowF_len f) (by omega) (gk_t (fad_eptr (gk_t (ldp_eptr (ds := (rowT f.2).map .pv) (by rw [rowF_len]; omega) hp ?_))))))))))
      refine gk_t (fad_of rfl (gk_t (ld_of h1 rfl (gk_t (gk_t (wIdx_rows hf' (row := rowF f) (by omega) hrow (rowF_len f) (by omega) (gk_t (fad_eptr (gk_t (ldp_eptr (ds := (rowT f.2).map .pv) (by rw [rowF_len]; omega) hp (gk_t (wCall_pure hT2 ?_))))))))))))
      rintro _ rfl
      refine gk_t (nt (pk (co_f (p37_5 (in_add (by omega) (by omega) ?_)))))
      have := ih (q + 1) (by omega)
      simpa using this
  exact loop fs.length 0 (by omega)
theorem declsEqual_spec {Ds : List Dc} (hd : ∀ d ∈ Ds, DSm d) (hl : Ds.length ≤ 60) {x y : AV} (hx : RowsO x (rowsD Ds)) (hy : RowsO y (rowsD Ds)) : PureC (env R) 18 [x, y] fun r => r = BB true := by
  obtain ⟨u, hu1, hu2⟩ := hx.closed ([] : List (List AV)) 0
  obtain ⟨w, hw1, hw2⟩ := hy.closed ([] : List (List AV)) 0
  refine e18 (u0 := u) (u1 := w) (by simp [closeL, hu1, hw1]) (p18_0 ?_)
  refine len_of (n := Ds.length) (by rw [hu2.lenA, rowsD_len]) (len_of (n := Ds.length) (by rw [hw2.lenA, rowsD_len]) (in_neq ?_))
  rw [show ((Ds.length : Int) != Ds.length) = false by simp]
  refine co_f (p18_1 ?_)
  have loop : ∀ (j q : Nat), q + j = Ds.length → P18_2 R 0 0 0 u w (I64 q) ⟨[], []⟩ (QP fun r => r = BB true) := by
    intro j
    induction j with
    | zero =>
      intro q hq
      refine p18_2 (len_of (n := Ds.length) (by rw [hu2.lenA, rowsD_len]) (in_lss ?_))
      rw [decide_eq_false (by omega)]
      exact co_f (p18_4 ⟨_, clP, rfl⟩)
    | succ j ih =>
      intro q hq
      refine p18_2 (len_of (n := Ds.length) (by rw [hu2.lenA, rowsD_len]) (in_lss ?_))
      rw [decide_eq_true (by omega)]
      obtain ⟨d, hdq⟩ : ∃ d, Ds[q]? = some d := ⟨_, List.getElem?_eq_getElem (by omega)⟩
      have hrow : (rowsD Ds)[((q : Nat) : Int).toNat]? = some (rowD d) := by simpa using rowsD_get hdq
      have hE := declEqual_spec (R := R) (hd d (List.mem_of_getElem? hdq)) (DRep.of_row d) (DRep.of_row d)
      refine co_t (p18_3 (wIdx_rows hu2 (row := rowD d) (by omega) hrow (rowD_len d) (by omega) (ldrow (rowD_len d) (wIdx_rows hw2 (row := rowD d) (by omega) hrow (rowD_len d) (by omega) (ldrow (rowD_len d) (wCall_pure hE ?_))))))
      rintro _ rfl
      refine nt (co_f (p18_5 (in_add (by omega) (by omega) ?_)))
      have := ih (q + 1) (by omega)
      simpa using this
  exact loop Ds.length 0 (by omega)
end
end Go.Proofs.YtcmeadgdojfhnaaGreatDoor
/-
  Hierarchies.
-/
namespace Go.Proofs.YtcmeadgdojfhnaaGreatDoor
open Go.Tel
abbrev bD (n : List UInt8) : Dc := ⟨n, 0, .mk 0 [] 0 [], true, []⟩
def builtIn : List Dc := [bD [73, 110, 116], bD [66, 111, 111, 108], bD [83, 116, 114, 105, 110, 103], bD [78, 105, 108]]
section
variable {R : RT}
theorem new_ev : callN (env R) 60 (LFE (env R) 4 0 0 0) 14 [] ⟨[], []⟩ = some (.ptr 1 0, ⟨[[.mobj (mkE (fun i => .int .i64 i) 0 (builtIn.map (·.nm))) 4], [.own 0 (rowsD builtIn), .mref 0]], [(4, 36)]⟩) := by kernel_rfl
abbrev S1 : Sto := ⟨[[.mobj (mkE (fun i => .int .i64 i) 0 (builtIn.map (·.nm))) 4], [.own 0 (rowsD builtIn), .mref 0]], [(4, 36)]⟩
abbrev S2 : Sto := ⟨[[.mobj (mkE (fun i => .int .i64 i) 0 (builtIn.map (·.nm))) 4], [.own 0 (rowsD builtIn), .mref 0], [.own 1 (rowsD builtIn)]], [(4, 36), (4, 36)]⟩
theorem rnew_ev : callN (env R) 60 (LFE (env R) 4 0 0 0) 15 [] S1 = some (.ptr 2 0, S2) := by kernel_rfl
def AllOk (R : RT) (l : List Dc) : Prop := ∀ (i : Nat) (d : Dc), l[i]? = some d → DOk R (builtIn ++ l.take i) d
theorem DSm.builtIn : ∀ d ∈ builtIn, DSm d := by
  intro d hd
  simp only [Go.Proofs.YtcmeadgdojfhnaaGreatDoor.builtIn, List.mem_cons, List.not_mem_nil, or_false] at hd
  rcases hd with rfl | rfl | rfl | rfl <;> exact ⟨⟨by decide, by rfl⟩, by simp, by simp⟩
theorem AllOk.sm {l : List Dc} (h : AllOk R l) : ∀ d ∈ builtIn ++ l, DSm d := by
  intro d hd
  rcases List.mem_append.1 hd with hd | hd
  · exact DSm.builtIn d hd
  · obtain ⟨i, hi⟩ := List.mem_iff_getElem?.1 hd
    exact (h i d hi).wf.sm
def Both (s : Sto) (Ds : List Dc) (u v : AV) : Prop := ∃ p b q a a', u = .ptr p 0 ∧ v = .ptr q 0 ∧ q ≠ p ∧ q ≠ b ∧ HS s p b Ds a ∧ RS s q Ds a'
theorem both_start : Both ⟨[[.mobj (mkE (fun i => .int .i64 i) 0 (builtIn.map (·.nm))) 4], [.own 0 (rowsD builtIn), .mref 0], [.own 1 (rowsD builtIn)]], [(4, 36), (4, 36)]⟩ builtIn (.ptr 1 0) (.ptr 2 0) := by
  have hok : OkS ⟨[[.mobj (mkE (fun i => .int .i64 i) 0 (builtIn.map (·.nm))) 4], [.own 0 (rowsD builtIn), .mref 0], [.own 1 (rowsD builtIn)]], [(4, 36), (4, 36)]⟩ := by
    intro c hc
    simp only [List.mem_cons, List.not_mem_nil, or_false] at hc
    rcases hc with rfl | rfl | rfl <;> rfl
  have hnd : (builtIn.map (·.nm)).Nodup := by decide
  exact ⟨1, 0, 2, .own 0 (rowsD builtIn), .own 1 (rowsD builtIn), rfl, rfl, by decide, by decide, ⟨rfl, .inr ⟨0, rfl, rfl, Nat.zero_le _⟩, rfl, hnd, by decide, hok, by decide⟩, ⟨rfl, .inr ⟨1, rfl⟩, hnd, hok, by decide⟩⟩
theorem eqPL_rowD (d : Dc) : eqPL (rowD d) (rowD d) = true := by
  obtain ⟨nm, ar, ⟨k, n, i, ts⟩, co, fs⟩ := d
  cases co <;> simp [rowD, rowT, eqPL, eqP, eqV_str, eqV_int, eqPLL_rows, eqPLL_rowsF] <;> rfl
theorem both_step {s : Sto} {Ds : List Dc} {u v : AV} (h : Both s Ds u v) {d : Dc} (hd : DOk R Ds d) (hl : Ds.length < 60) {L : Lim} (hro : L.ro = 0) (hrt : L.rt = 0) {x : AV} (hx : DRep d x) :
    ∃ s1 s2, CallE (env R) L 16 [u, x] s (I64 0) s1 ∧ CallE (env R) L 17 [v, x] s1 (I64 0) s2 ∧ Both s2 (Ds ++ [d]) u v := by
  obtain ⟨p, b, q, a, a', rfl, rfl, h1, h2, hH, hR⟩ := h
  have hq := (List.getElem?_eq_some_iff.1 hR.hb).1
  obtain ⟨_, s1, ⟨rfl, hl1, hk1, a1, hH1⟩, hc1⟩ := declare_spec hH hd hl hx hro hrt
  have hR1 : RS s1 q Ds a' := ⟨by rw [hk1.2 q hq h1 h2]; exact hR.hb, hR.rw, hR.nd, hH1.ok, hR.ln⟩
  obtain ⟨_, s2, ⟨rfl, hl2, hk2, hK, a2, hR2⟩, hc2⟩ := rdeclare_spec hR1 hd hl hx hro hrt
  exact ⟨s1, s2, hc1, hc2, p, b, q, a1, a2, rfl, rfl, h1, h2, ⟨by rw [hk2 p (Ne.symm h1)]; exact hH1.hb, Apd.keepT hH1.ap hK, by unfold MapAt; rw [hk2 b (Ne.symm h2)]; exact hH1.mp, hH1.nd, hH1.ne, hR2.ok, hH1.ln⟩, hR2⟩
theorem hier_loop {l : List Dc} (hl : AllOk R l) (h12 : l.length ≤ 12) {x : AV} (hx : RowsA x (rowsD l)) {Post : AV → Sto → Prop} (hP : ∀ u v s, Both s (builtIn ++ l) u v → Post (.tuple [u, v, BB true]) s) :
    ∀ (j i : Nat) (s : Sto) (u v : AV), i + j = l.length → Both s (builtIn ++ l.take i) u v → P4_2 R 0 0 0 x u v (I64 i) s Post := by
  intro j
  induction j with
  | zero =>
    intro i s u v hi h
    refine p4_2 (len_of (n := l.length) (by rw [hx.lenA, rowsD_len]) (in_lss ?_))
    rw [decide_eq_false (by omega)]
    rw [List.take_of_length_le (by omega)] at h
    refine co_f (p4_4 ?_)
    obtain ⟨p, b, q, a, a', rfl, rfl, h1, h2, hH, hR⟩ := h
    refine wCall_do (hdecls_spec hH hl.sm (L := LFE (env R) 4 0 0 0) rfl rfl) ?_
    rintro d1 ⟨bs1, ts1⟩ ⟨hd1, rfl, hK1⟩
    have hH1 := hH.keepT (s' := ⟨s.bs, ts1⟩) rfl hK1
    have hR1 : RS ⟨s.bs, ts1⟩ q (builtIn ++ l) a' := ⟨hR.hb, hR.rw, hR.nd, hH1.ok, hR.ln⟩
    refine wCall_do (rdecls_spec hR1 (L := LFE (env R) 4 0 0 0) rfl) ?_
    rintro d2 ⟨bs2, ts2⟩ ⟨hd2, _, rfl, hK2⟩
    have hH2 := hH1.keepT (s' := ⟨s.bs, ts2⟩) rfl hK2
    have hR2 : RS ⟨s.bs, ts2⟩ q (builtIn ++ l) a' := ⟨hR.hb, hR.rw, hR.nd, hH2.ok, hR.ln⟩
    refine wCall_pure (declsEqual_spec hl.sm (by have := hR.ln; exact this) hd1 hd2.rowsO) ?_
    rintro _ rfl
    exact hP _ _ _ ⟨p, b, q, a, a', rfl, rfl, h1, h2, hH2, hR2⟩
  | succ j ih =>
    intro i s u v hi h
    refine p4_2 (len_of (n := l.length) (by rw [hx.lenA, rowsD_len]) (in_lss ?_))
    rw [decide_eq_true (by omega)]
    obtain ⟨d, hd⟩ : ∃ d, l[i]? = some d := ⟨_, List.getElem?_eq_getElem (by omega)⟩
    have hrow : (rowsD l)[((i : Nat) : Int).toNat]? = some (rowD d) := by simpa using rowsD_get hd
    obtain ⟨s1, s2, hc1, hc2, hB⟩ := both_step h (hl i d hd) (by simp [builtIn]; omega) (L := LFE (env R) 4 0 0 0) rfl rfl (DRep.of_row d)
    obtain ⟨es, hes, hed⟩ := DRep.of_row d
    cases hes
    refine co_t (p4_3 (wIdx_rows hx (row := rowD d) (by omega) hrow (rowD_len d) (by omega) (ldrow (rowD_len d) ?_)))
    refine ⟨_, _, hc1, wIdx_rows hx (row := rowD d) (by omega) hrow (rowD_len d) (by omega) (ldrow (rowD_len d) ⟨_, _, hc2, in_neq ?_⟩)⟩
    rw [show ((0 : Int) != 0) = false from rfl]
    refine ⟨?_, ?_, co_f (p4_5 (in_add (by omega) (by omega) ?_))⟩
    · refine wIdx_rows hx (row := rowD d) (by omega) hrow (rowD_len d) (by omega) ?_
      simp [Tel.eqA, eqPL_rowD]
    · exact ldrow (rowD_len d) (eqA_dc hed)
    · have et : builtIn ++ l.take i ++ [d] = builtIn ++ l.take (i + 1) := by rw [List.take_add_one, hd]; simp
      rw [et] at hB
      have := ih (i + 1) s2 u v (by omega) hB
      simpa using this
theorem hierarchies_spec {l : List Dc} (hl : AllOk R l) (h12 : l.length ≤ 12) {x : AV} (hx : RowsA x (rowsD l)) {L : Lim} (hn0 : L.n0 = 0) (hro : L.ro = 0) (hrt : L.rt = 0) : ∃ w s', (∃ u v, w = .tuple [u, v, BB true] ∧ Both s' (builtIn ++ l) u v) ∧ CallE (env R) L 4 [x] ⟨[], []⟩ w s' := by
  refine m4 ?_
  rw [hn0, hro, hrt]
  refine p4_0 ⟨_, _, CallE.of_some new_ev, ⟨_, _, CallE.of_some rnew_ev, ?_⟩⟩
  refine (show wNeP _ _ _ _ (.ptr 1 0) _ _ from ?_)
  simp only [wNeP, isNilP, Bool.false_and]
  refine ⟨by rfl, co_f (p4_1 ?_)⟩
  exact hier_loop hl h12 hx (fun u v s h => ⟨u, v, rfl, h⟩) l.length 0 _ _ _ (by omega) (by simpa using both_start)
end
end Go.Proofs.YtcmeadgdojfhnaaGreatDoor
