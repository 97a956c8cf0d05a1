/-
  Format, the program.
-/
import Derived.Test.YtmipbilokjkjiaaGreatDoorFB
set_option linter.unusedSimpArgs false
set_option linter.unusedVariables false
namespace Go.Proofs.YtmipbilokjkjiaaGreatDoor
open Go.Tel
attribute [local simp] wNew wBox wBoxZ markT wCond wBuild fillS wO setCells wSt wLd wPart LFE wFad alive wInt wStr wGK wGd wPick wExt wLen wSlen wNot wNil okI ceI okB ceB okS ceS okL ceL okC ceC okO ceO okP ceP okG ceG okE ceE okR ceR okF ceF okX ceX okM ceM okN ceN okNf ceNf okNi ceNi ceA roL roC roO leL leC leO tpP tpC tpO clP clC clO clF clA clT clN clL nbP nbC nbO nbN nbL toPVs
mutual
theorem fmt_congr {N M : List (List UInt8)} (h : ∀ w, w ∈ N ↔ w ∈ M) : ∀ (t : Ty) (sc : List (List UInt8)), fmt N t sc = fmt M t sc
  | .mk k n i ts, sc => by
    have e : fresh (N ++ sc) = fresh (M ++ sc) := fresh_congr (fun w => by rw [List.mem_append, List.mem_append, h])
    have el := fmtL_congr h ts
    by_cases h6 : k = 6
    · subst h6
      by_cases h2 : ts.length = 2
      · obtain ⟨b, body, rfl⟩ : ∃ b body, ts = [b, body] := by
          rcases ts with _ | ⟨x1, _ | ⟨x2, _ | ⟨x3, r⟩⟩⟩ <;> simp at h2
          exact ⟨_, _, rfl⟩
        rw [fmt_ex, fmt_ex, e, fmt_congr h b, fmt_congr h body]
      · rw [fmt_bad _ _ _ _ _ h2, fmt_bad _ _ _ _ _ h2]
    · rw [fmt_eq _ _ _ _ _ _ h6, fmt_eq _ _ _ _ _ _ h6, el]
theorem fmtL_congr {N M : List (List UInt8)} (h : ∀ w, w ∈ N ↔ w ∈ M) : ∀ (l : List Ty) (sc : List (List UInt8)), fmtL N l sc = fmtL M l sc
  | [], sc => by simp [fmtL]
  | t :: l, sc => by rw [fmtL, fmtL, fmt_congr h t, fmtL_congr h l]
end
theorem isId_len {n : List UInt8} (h : isId n = true) : n.length ≤ 24 := by
  unfold isId at h
  simp only [Bool.and_eq_true, decide_eq_true_eq] at h
  exact h.1.1.2
theorem isId_ne {n : List UInt8} (h : isId n = true) : n ≠ [] := by
  intro e
  subst e
  simp [isId] at h
theorem valid_name {k i : Int} {n : List UInt8} {ts : List Ty} (h : root k n i ts = true) : (k = 2 → isId n = true) ∧ (k ≠ 2 → n = []) := by
  simp only [root, Bool.and_eq_true] at h
  refine ⟨fun e => ?_, fun e => ?_⟩
  · subst e
    have := h.2
    unfold shape at this
    simp at this
    exact this.1.1.1
  · have := h.1.1
    simpa [e] using this
theorem hdT_len {k i : Int} {n : List UInt8} {ts : List Ty} (h : root k n i ts = true) : (hdT k n).length ≤ 24 := by
  unfold hdT
  by_cases h2 : k = 2
  · subst h2
    exact isId_len ((valid_name h).1 rfl)
  · have b2 : (k == 2) = false := by simpa using h2
    rw [b2]
    cases (k == 3) <;> simp
theorem varT_len {sc : List (List UInt8)} (h : ∀ w ∈ sc, w.length ≤ 24) (i : Int) : (varT sc i).length ≤ 24 := by
  unfold varT
  have hd := dig_len (i - sc.length).toNat
  generalize dig (i - sc.length).toNat = d at hd ⊢
  split
  · rename_i w hw
    have := h w (List.mem_of_getElem? hw)
    cases decide (i < (sc.length : Int)) <;> simp <;> omega
  · simp; omega
mutual
theorem fmt_len {N : List (List UInt8)} : ∀ (t : Ty), valid t = true → ∀ (sc : List (List UInt8)), (∀ w ∈ sc, w.length ≤ 24) → (fmt N t sc).length + 1 ≤ 64 * size t
  | .mk k n i ts, hv, sc, hsc => by
    simp only [valid, Bool.and_eq_true] at hv
    have hl := fmtL_len (N := N) ts hv.2 sc hsc
    have hhd := hdT_len hv.1
    simp only [size]
    by_cases h6 : k = 6
    · subst h6
      obtain ⟨b, body, rfl⟩ : ∃ b body, ts = [b, body] := by
        have h2 := (root_kind hv.1).2.2 rfl
        rcases ts with _ | ⟨x1, _ | ⟨x2, _ | ⟨x3, r⟩⟩⟩ <;> simp at h2
        exact ⟨_, _, rfl⟩
      rw [fmt_ex]
      have hf := fresh_len (used := N ++ sc)
      simp only [validL, Bool.and_eq_true] at hv
      have h1 := fmt_len (N := N) b hv.2.1 [] (fun _ h => by cases h)
      have h2 := fmt_len (N := N) body hv.2.2.1 (sc ++ [fresh (N ++ sc)]) (by
        intro w hw
        rcases List.mem_append.1 hw with h | h
        · exact hsc w h
        · simp only [List.mem_cons, List.not_mem_nil, or_false] at h
          rw [h]; omega)
      simp only [sizeL, List.length_append, List.length_cons, List.length_nil]
      omega
    · rw [fmt_eq _ _ _ _ _ _ h6]
      have hvar := varT_len hsc i
      cases (k == 0) with
      | true => simp; omega
      | false =>
        cases (k == 1) with
        | true => simp; omega
        | false =>
          cases (k == 5) with
          | true => simp; omega
          | false =>
            cases hz : (k == 2 && ts.length == 0) with
            | true =>
              simp only [cond_false, cond_true]
              have : k = 2 := by simp at hz; exact hz.1
              have := isId_len ((valid_name hv.1).1 this)
              omega
            | false =>
              simp only [cond_false, List.length_append, List.length_cons, List.length_nil]
              omega
theorem fmtL_len {N : List (List UInt8)} : ∀ (l : List Ty), validL l = true → ∀ (sc : List (List UInt8)), (∀ w ∈ sc, w.length ≤ 24) → (fmtL N l sc).length ≤ 64 * sizeL l
  | [], _, sc, _ => by simp [fmtL]
  | t :: l, hv, sc, hsc => by
    simp only [validL, Bool.and_eq_true] at hv
    have h1 := fmt_len (N := N) t hv.1 sc hsc
    have h2 := fmtL_len (N := N) l hv.2 sc hsc
    simp only [fmtL, sizeL, List.length_append, List.length_cons, List.length_nil]
    omega
end
theorem fmt_ne {N : List (List UInt8)} : ∀ (t : Ty), valid t = true → fmt N t [] ≠ []
  | .mk k n i ts, hv => by
    simp only [valid, Bool.and_eq_true] at hv
    by_cases h6 : k = 6
    · subst h6
      obtain ⟨b, body, rfl⟩ : ∃ b body, ts = [b, body] := by
        have h2 := (root_kind hv.1).2.2 rfl
        rcases ts with _ | ⟨x1, _ | ⟨x2, _ | ⟨x3, r⟩⟩⟩ <;> simp at h2
        exact ⟨_, _, rfl⟩
      rw [fmt_ex]
      simp
    · rw [fmt_eq _ _ _ _ _ _ h6]
      cases (k == 0) with
      | true => simp
      | false =>
        cases (k == 1) with
        | true => simp
        | false =>
          cases (k == 5) with
          | true => simp [varT]
          | false =>
            cases hz : (k == 2 && ts.length == 0) with
            | true =>
              have : k = 2 := by simp at hz; exact hz.1
              exact isId_ne ((valid_name hv.1).1 this)
            | false => simp
def textT (t : Ty) : List UInt8 := bif verdict t == 0 then fmt (noms t) t [] else []
theorem verdict_zero {t : Ty} (h : verdict t = 0) : size t ≤ 200 ∧ depth t ≤ 12 ∧ valid t = true := by
  unfold verdict at h
  by_cases h1 : 200 < size t
  · rw [decide_eq_true h1] at h
    simp at h
  by_cases h2 : 12 < depth t
  · rw [decide_eq_true h2] at h
    simp at h
  refine ⟨by omega, by omega, ?_⟩
  rw [decide_eq_false h1, decide_eq_false h2] at h
  cases hv : valid t with
  | true => rfl
  | false => rw [hv] at h; simp at h
theorem byteRows_bytes : ∀ (l : List UInt8), byteRows (byteRs l) = some l
  | [] => rfl
  | b :: l => by
    have h := byteRows_bytes l
    have hb : Nat.blt b.toNat 256 = true := by
      have := b.toNat_lt
      simp
      omega
    have e : byteRs (b :: l) = [.sc (.int .u8 (.ofNat b.toNat))] :: byteRs l := rfl
    rw [e]
    simp [byteRows, hb, h]
theorem strT_buf {L : Lim} {id : Nat} {s : Sto} {x : AV} {r : List AV} {tok : Nat} {c : UInt8} {cs : List UInt8} (hid : s.bs[id]? = some (x :: .own tok (byteRs (c :: cs)) :: r)) (htok : s.ts[tok]? = some ((c :: cs).length, 5)) (hrt : L.rt = 0)
    (b1 : Nat.beq (c :: cs).length (byteRs (c :: cs)).length = true) (b2 : Nat.ble (byteRs (c :: cs)).length 1000000000000000000 = true) : Go.Tel.strT 5 L [.ptr id 0] s = some (SS (c :: cs), s) := by
  unfold Go.Tel.strT
  simp only [hid]
  rw [byteRows_bytes, htok]
  have b3 : Nat.ble 0 tok = true := by simp
  simp only [b1, b2, b3, hrt]
  simp
section
variable {R : Nat → Option (List PV)}
theorem format_spec {t : Ty} (h : size t < 2 ^ 60) (ho : okT t) (hsm : smallV t = true) {x : AV} (hx : TRep t x) : PureC (env R) 10 [x] fun r => r = SS (textT t) := by
  have ev := validate_spec (R := R) h ho hx
  have hx' := hx
  obtain ⟨k, n, i, ts⟩ := t
  obtain ⟨a, rfl, ha⟩ := hx
  suffices H : ∀ Post : AV → Prop, Post (SS (textT (.mk k n i ts))) → P10_0 R 0 0 0 (.agg [I64 k, SS n, I64 i, a]) ⟨[], []⟩ (QP Post) from
    e10 (u0 := .agg [I64 k, SS n, I64 i, a]) (by simp [ha.close]) (H _ rfl)
  intro Post hP
  refine p10_0 ?_
  simp [ha.ok]
  refine wCall_pure ev ?_
  rintro r rfl
  by_cases h0 : verdict (.mk k n i ts) = 0
  · obtain ⟨z1, z2, z3⟩ := verdict_zero h0
    have ht : textT (.mk k n i ts) = fmt (noms (.mk k n i ts)) (.mk k n i ts) [] := by
      unfold textT
      rw [h0]
      rfl
    rw [h0]
    simp
    refine p10_1 ?_
    have hld : ∀ (m : List (List AV)) (t : List (Nat × TypeId)) (K : AV → Prop), K (.agg [I64 k, SS n, I64 i, a]) → wLd (env R) ⟨[I64 k, SS n, I64 i, a] :: m, t⟩ (some 4) (.ptr 0 0) K := by
      intro m t K h
      simp
      exact h
    refine hld _ _ _ ?_
    refine wCall_pure (names_spec (by omega) hx') ?_
    rintro r ⟨N, hN, hmem, hlen⟩
    rw [ht] at hP
    have hfc := fmt_congr (N := N) (M := noms (.mk k n i ts)) hmem (.mk k n i ts) []
    rw [← hfc] at hP
    have hfl := fmt_len (N := N) (.mk k n i ts) z3 [] (fun _ h => by cases h)
    have hne := fmt_ne (N := N) (.mk k n i ts) z3
    have hb : ∀ (s : Sto) (K : AV → Sto → Prop), K (.ptr s.bs.length 0) ⟨s.bs ++ [FBlk s.bs.length true (.capped []) r], s.ts⟩ → wBuild [.pv (.sc (.pointer none)), .capped [], .capped []] [(2, 1, r)] fun a9 => wBoxZ s 71 a9 K := by
      intro s K hK
      refine bd_of (cs := [.pv (.sc (.pointer none)), .capped [], r]) (by simp [hN.ok, hN.cells]) ?_
      simp [hN.ok, FBlk] at hK ⊢
      exact ⟨rfl, hK⟩
    refine hb _ _ ?_
    simp only [List.length_cons, List.length_nil, List.cons_append, List.nil_append]
    have hs : OkS ⟨[[I64 k, SS n, I64 i, a], FBlk 1 true (.capped []) r], []⟩ := by
      intro b hb
      simp only [List.mem_cons, List.not_mem_nil, or_false] at hb
      rcases hb with rfl | rfl <;> simp [idsLtL, idsLt, ha.idsLt, FBlk, hN.idsLt]
    obtain ⟨v, s', ⟨z, buf, ts', rfl, hbuf⟩, hc⟩ := fmt_spec (R := R) hN (.mk k n i ts) z3 hsm [] (.capped []) (.inl (by simp [strRows]; exact .capped _)) (fun _ => .capped _) (by simp; omega) (by omega) _ hx' [[I64 k, SS n, I64 i, a], FBlk 1 true (.capped []) r] 1 true (.capped []) [] [] (LFE (env R) 10 0 0 0) rfl hs (.inl ⟨rfl, rfl⟩) (by simp; omega) rfl rfl
    refine hld _ _ _ ?_
    refine ⟨v, _, hc, ?_⟩
    generalize fmt N (.mk k n i ts) [] = w at hP hfl hne hbuf
    have hst : ∀ K : AV → Sto → Prop, K (SS w) ⟨[[I64 k, SS n, I64 i, a], FBlk 1 z buf r], ts'⟩ → wCall (env R) (LFE (env R) 10 0 0 0) (.func (.func 31) [] []) [.ptr 1 0] ⟨[[I64 k, SS n, I64 i, a], FBlk 1 z buf r], ts'⟩ K := by
      intro K hK
      refine ⟨_, _, CallE.of_told Tryz.func31 (by kernel_rfl) (T := Go.Tel.strT 5) (by kernel_rfl) ?_, hK⟩
      rcases hbuf with ⟨_, hw⟩ | ⟨tok, rfl, htok⟩
      · exact absurd hw hne
      · obtain ⟨c, cs, hc⟩ : ∃ c cs, w = c :: cs := by
          cases w with
          | nil => exact absurd rfl hne
          | cons c cs => exact ⟨c, cs, rfl⟩
        subst hc
        have b1 : Nat.beq (c :: cs).length (byteRs (c :: cs)).length = true := by simp [byteRs_len]
        have b2 : Nat.ble (byteRs (c :: cs)).length 1000000000000000000 = true := by
          rw [byteRs_len]
          simp only [List.length_cons] at hfl ⊢
          simp only [size] at hfl z1
          simp
          omega
        simp only [List.nil_append] at htok
        exact strT_buf (id := 1) (L := LFE (env R) 10 0 0 0) rfl (by simpa using htok) rfl b1 b2
    have hset : (List.set [[I64 k, SS n, I64 i, a], FBlk 1 true (.capped []) r] 1 (FBlk 1 z buf r)) = [[I64 k, SS n, I64 i, a], FBlk 1 z buf r] := rfl
    rw [hset]
    have hnil : ∀ K : AV → Prop, K (.ptr 1 0) → wNil ⟨[[I64 k, SS n, I64 i, a], FBlk 1 z buf r], ts'⟩ (.ptr 1 0) K := fun K hK => ⟨rfl, hK⟩
    have hfad : ∀ K : AV → Prop, K (.ptr 1 0) → wFad ⟨[[I64 k, SS n, I64 i, a], FBlk 1 z buf r], ts'⟩ (.ptr 1 0) 0 K := fun K hK => ⟨rfl, hK⟩
    refine hnil _ (hfad _ (hst _ ?_))
    exact ⟨_, by simp [close], hP⟩
  · have b0 : (verdict (.mk k n i ts) == 0) = false := by simpa using h0
    have ht : textT (.mk k n i ts) = [] := by
      unfold textT
      rw [b0]
      rfl
    rw [ht] at hP
    simp [QP, QI, h0]
    exact hP
end
end Go.Proofs.YtmipbilokjkjiaaGreatDoor
/-
  Format, the reference.
-/
namespace Go.Proofs.YtmipbilokjkjiaaGreatDoor
open Go.Tel
attribute [local simp] wNew wBox wBoxZ markT wCond wBuild fillS wO setCells wSt wLd wPart LFE wFad alive wInt wStr wGK wGd wPick wExt wLen wSlen wNot wNil okI ceI okB ceB okS ceS okL ceL okC ceC okO ceO okP ceP okG ceG okE ceE okR ceR okF ceF okX ceX okM ceM okN ceN okNf ceNf okNi ceNi ceA roL roC roO leL leC leO tpP tpC tpO clP clC clO clF clA clT clN clL nbP nbC nbO nbN nbL toPVs
section
variable {R : Nat → Option (List PV)}
def RFmtS (R : Nat → Option (List PV)) (N : List (List UInt8)) (nm : AV) (t : Ty) (sc : List (List UInt8)) : Prop := ∀ (x v : AV), TRep t x → RowsO v (strRows sc) → PureC (env R) 37 [x, nm, v] fun r => r = SS (fmt N t sc)
theorem rfmt_close {N : List (List UInt8)} {nm : AV} {names : List (List PV)} (hnm : RowsA nm names) {t : Ty} {sc : List (List UInt8)} (h : ∀ (x v : AV), TRep t x → RowsA v (strRows sc) → PureC (env R) 37 [x, nm, v] fun r => r = SS (fmt N t sc)) : RFmtS R N nm t sc := by
  intro x v hx hv
  obtain ⟨v', hc, hr⟩ := hv.closed ([] : List (List AV)) 0
  have := h x v' hx hr
  obtain ⟨k, n, i, ts⟩ := t
  obtain ⟨a, rfl, ha⟩ := hx
  exact PureC.of_closed (args' := [.agg [I64 k, SS n, I64 i, a], nm, v']) (by kernel_rfl) (by kernel_rfl) (by simp [hc, ha.close, hnm.close]) (by simp [hr.close, ha.close, hnm.close]) this
theorem rlist_loop {N : List (List UInt8)} {nm : AV} {k i : Int} {n : List UInt8} {ts : List Ty} {a v : AV} {sc : List (List UInt8)} (ha : RowsA a (rowsT ts)) (hv : RowsA v (strRows sc)) (hl : ts.length < 2 ^ 30) (ih : ∀ t ∈ ts, RFmtS R N nm t sc) {Post : AV → Prop} {hd : List UInt8} (hlen : hd.length + (fmtL N ts sc).length < 2 ^ 40) (hP : Post (SS (hd ++ fmtL N ts sc ++ [41]))) :
    ∀ (j q : Nat) (acc : List UInt8), q + j = ts.length → acc ++ fmtL N (ts.drop q) sc = hd ++ fmtL N ts sc → P37_4 R 0 0 0 nm v (.ptr 0 0) (SS acc) (I64 q) ⟨[[I64 k, SS n, I64 i, a]], []⟩ (QP Post) := by
  have fad : ∀ (d : Nat) (K : AV → Prop), K (.ptr 0 d) → wFad ⟨[[I64 k, SS n, I64 i, a]], []⟩ (.ptr 0 0) d K := fun d K h => ⟨rfl, by simpa using h⟩
  have ld : ∀ (d : Nat) (c : AV), [I64 k, SS n, I64 i, a][d]? = some c → ∀ K : AV → Prop, K c → wLd (env R) ⟨[[I64 k, SS n, I64 i, a]], []⟩ none (.ptr 0 d) K := by
    intro d c hc K h
    simp only [wLd, wO, wPart, List.getElem?_cons_zero, hc]
    exact h
  have hlenA : ∀ (s : Sto) (K : AV → Prop), K (I64 ts.length) → wLen s a K := by
    intro s K h
    simp only [wLen, ha.lenA, wO, rowsT_len]
    exact h
  intro j
  induction j with
  | zero =>
    intro q acc hq hacc
    refine p37_4 (fad _ _ (ld 3 _ rfl _ (hlenA _ _ (in_lss ?_))))
    have h1 : ¬ ((q : Int) < ts.length) := by omega
    simp only [h1, decide_false]
    refine co_f (p37_6 ?_)
    have h2 : ts.drop q = [] := List.drop_of_length_le (by omega)
    rw [h2] at hacc
    simp only [fmtL, List.append_nil] at hacc
    subst hacc
    refine st_add (by simp; omega) ?_
    exact ⟨SS (hd ++ fmtL N ts sc ++ [41]), by simp, hP⟩
  | succ j ihj =>
    intro q acc hq hacc
    refine p37_4 (fad _ _ (ld 3 _ rfl _ (hlenA _ _ (in_lss ?_))))
    have h1 : ((q : Int) < ts.length) := by omega
    obtain ⟨t, ht⟩ : ∃ t, ts[q]? = some t := ⟨_, List.getElem?_eq_getElem (by omega)⟩
    rw [drop_cons ht] at hacc
    simp only [fmtL] at hacc
    have hsum : acc.length + 1 + (fmt N t sc).length ≤ hd.length + (fmtL N ts sc).length := by
      have := congrArg List.length hacc
      simp only [List.length_append, List.length_cons, List.length_nil] at this
      omega
    simp only [h1, decide_true]
    refine co_t (p37_5 (fad _ _ (ld 3 _ rfl _ ?_)))
    refine wIdx_rows ha (row := rowT t) (by omega) (by simpa using rowsT_get ht) (rowT_len t) (by omega) (ld_row (rowT_len t) ?_)
    refine wCall_pure (ih t (List.mem_of_getElem? ht) _ _ (TRep.of_row t) (.inl hv)) ?_
    rintro r rfl
    refine st_add (by simp; omega) (st_add (by simp; omega) ?_)
    refine p37_7 (in_add (by omega) (by omega) ?_)
    have := ihj (q + 1) (acc ++ ([32] ++ fmt N t sc)) (by omega) (by rw [← hacc]; simp)
    simpa using this
mutual
theorem rfmt_spec {N : List (List UInt8)} {nm : AV} (hnm : RowsA nm (strRows N)) : ∀ (t : Ty), valid t = true → smallV t = true → ∀ (sc : List (List UInt8)), (∀ w ∈ sc, w.length ≤ 24) → N.length + sc.length + depth t < 260 → size t < 2 ^ 30 → RFmtS R N nm t sc
  | .mk k n i ts, hv, hsm, sc, hsc, hlen, hsz => by
    refine rfmt_close hnm ?_
    intro x v hx hvs
    have hfl := fmt_len (N := N) (.mk k n i ts) hv sc hsc
    obtain ⟨a, rfl, ha⟩ := hx
    simp only [valid, Bool.and_eq_true] at hv
    simp only [smallV, Bool.and_eq_true] at hsm
    simp only [depth] at hlen
    simp only [size] at hsz hfl
    have hlts := sizeL_len ts
    obtain ⟨hkind, hk5, hk6⟩ := root_kind hv.1
    have ih := rfmts_spec hnm ts hv.2 hsm.2
    suffices H : ∀ Post : AV → Prop, Post (SS (fmt N (.mk k n i ts) sc)) → P37_0 R 0 0 0 (.agg [I64 k, SS n, I64 i, a]) nm v ⟨[], []⟩ (QP Post) from
      e37 (u0 := .agg [I64 k, SS n, I64 i, a]) (u1 := nm) (u2 := v) (by simp [ha.close, hnm.close, hvs.close]) (H _ rfl)
    intro Post hP
    refine p37_0 ?_
    have hbox : ∀ K : AV → Sto → Prop, K (.ptr 0 0) ⟨[[I64 k, SS n, I64 i, a]], []⟩ → wBox ⟨[], []⟩ (.agg [I64 k, SS n, I64 i, a]) K := by
      intro K h
      simp [ha.ok]
      exact h
    refine hbox _ ?_
    have fad : ∀ (d : Nat) (K : AV → Prop), K (.ptr 0 d) → wFad ⟨[[I64 k, SS n, I64 i, a]], []⟩ (.ptr 0 0) d K := fun d K h => ⟨rfl, by simpa using h⟩
    have fadT : ∀ (t : List (Nat × TypeId)) (d : Nat) (K : AV → Prop), K (.ptr 0 d) → wFad ⟨[[I64 k, SS n, I64 i, a]], t⟩ (.ptr 0 0) d K := fun t d K h => ⟨rfl, by simpa using h⟩
    have ld : ∀ (t : List (Nat × TypeId)) (d : Nat) (c : AV), [I64 k, SS n, I64 i, a][d]? = some c → ∀ K : AV → Prop, K c → wLd (env R) ⟨[[I64 k, SS n, I64 i, a]], t⟩ none (.ptr 0 d) K := by
      intro t d c hc K h
      simp only [wLd, wO, wPart, List.getElem?_cons_zero, hc]
      exact h
    have fin : ∀ w : List UInt8, fmt N (.mk k n i ts) sc = w → ∀ t, QP Post (SS w) ⟨[[I64 k, SS n, I64 i, a]], t⟩ := fun w hw t => ⟨SS w, by simp, by rw [← hw]; exact hP⟩
    refine fad _ _ (ld _ 0 _ rfl _ (in_eql ?_))
    by_cases h0 : k = 0
    · subst h0
      exact co_t (fin _ (by rw [fmt_eq _ _ _ _ _ _ (by omega)]; rfl) _)
    have b0 : (k == 0) = false := by simpa using h0
    rw [b0]
    refine co_f (in_eql ?_)
    by_cases h1 : k = 1
    · subst h1
      exact co_t (fin _ (by rw [fmt_eq _ _ _ _ _ _ (by omega)]; rfl) _)
    have b1 : (k == 1) = false := by simpa using h1
    rw [b1]
    refine co_f (in_eql ?_)
    by_cases h5 : k = 5
    · subst h5
      obtain ⟨hi0, hi200⟩ := hk5 rfl
      have hi100 : i < 100 := by simpa using hsm.1
      refine co_t (fad _ _ (ld _ 2 _ rfl _ ?_))
      have hlenS : ∀ (s : Sto) (K : AV → Prop), K (I64 sc.length) → wLen s v K := by
        intro s K h
        simp only [wLen, hvs.lenA, wO, strRows_len]
        exact h
      have hw : fmt N (.mk 5 n i ts) sc = varT sc i := by
        rw [fmt_eq _ _ _ _ _ _ (by omega)]
        rfl
      refine hlenS _ _ (in_lss ?_)
      by_cases hc : i < (sc.length : Int)
      · have bc : decide (i < (sc.length : Int)) = true := by simpa using hc
        rw [bc]
        obtain ⟨w, hw'⟩ : ∃ w, sc[((sc.length : Int) - 1 - i).toNat]? = some w := ⟨_, List.getElem?_eq_getElem (by omega)⟩
        have hv' : varT sc i = w := by
          unfold varT
          rw [hw']
          simp [bc]
        refine co_t (hlenS _ _ (in_sub (by omega) (by omega) (fad _ _ (ld _ 2 _ rfl _ (in_sub (by omega) (by omega) ?_)))))
        refine wIdx_rows hvs (row := [.sc (.string ⟨w.toArray⟩)]) (by omega) (by simpa using strRows_get hw') rfl (by omega) (ld_str ?_)
        exact fin _ (by rw [hw, hv']) _
      · have bc : decide (i < (sc.length : Int)) = false := by simpa using hc
        rw [bc]
        obtain ⟨j, hj⟩ := Int.eq_ofNat_of_zero_le (show 0 ≤ i - (sc.length : Int) by omega)
        have hv' : varT sc i = 36 :: dig j := by
          unfold varT
          rw [hj]
          cases sc[((sc.length : Int) - 1 - i).toNat]? <;> simp [bc]
        refine co_f (p37_1 (fad _ _ (ld _ 2 _ rfl _ (hlenS _ _ (in_sub (by omega) (by omega) ?_)))))
        rw [hj]
        refine wCall_pure (digits_spec (by omega)) ?_
        rintro r rfl
        have hd := dig_len j
        refine st_add (by simp; omega) ?_
        exact fin _ (by rw [hw, hv']; rfl) _
    have b5 : (k == 5) = false := by simpa using h5
    rw [b5]
    refine co_f (in_eql ?_)
    by_cases h6' : k = 6
    · subst h6'
      have h2 := hk6 rfl
      obtain ⟨b, body, rfl⟩ : ∃ b body, ts = [b, body] := by
        rcases ts with _ | ⟨x1, _ | ⟨x2, _ | ⟨x3, r⟩⟩⟩ <;> simp at h2
        exact ⟨_, _, rfl⟩
      simp only [depthL, sizeL] at hlen hsz hfl
      have hff := fresh_len (used := N ++ sc)
      have hex := fmt_ex N n i b body sc
      rw [hex] at hfl
      simp only [List.length_append, List.length_cons, List.length_nil] at hfl
      refine co_t ?_
      have hb0 : ∀ (s : Sto) (K : AV → Sto → Prop), K (.capped []) s → wBsl false s 1 [SS []] 0 [] K := by
        intro s K h
        simp [wBsl, repl, fillS, wO, toPVs, rowsBy]
        exact h
      have hb1 : ∀ (f : List UInt8) (s : Sto) (K : AV → Sto → Prop), K (.capped [[.sc (.string ⟨f.toArray⟩)]]) s → wBsl false s 1 [SS []] 1 [(0, 1, SS f)] K := by
        intro f s K h
        simp [wBsl, repl, rowsBy]
        exact h
      have hslN : (strRows N).length = N.length := strRows_len N
      have hsl : (strRows sc).length = sc.length := strRows_len sc
      refine hb0 _ _ ⟨by simp, ?_⟩
      refine wApp_rows (ts := []) (x := []) (rows := []) (m := strRows N) (.inl rfl) (by simp [LFE]) (by simp) strRows_row (by omega) (srcCells_rows (.inl hnm) strRows_row) strRows_ok (by rw [hslN]; simp; omega) (by rw [hslN]; simp; omega) ?_
      intro a1 x1 ha1
      refine ⟨by simp, ?_⟩
      refine wApp_rows (ts := []) (x := x1) (m := strRows sc) ha1 (by simp [LFE]) (by simpa using strRows_row) strRows_row (by omega) (srcCells_rows (.inl hvs) strRows_row) strRows_ok (by simp [hslN, hsl]; omega) (by simp [hslN, hsl]; omega) ?_
      intro a2 x2 ha2
      have e2 : [] ++ strRows N ++ strRows sc = strRows (N ++ sc) := by simp [strRows]
      rw [e2] at ha2
      obtain ⟨a3, hc3, hr3⟩ := ha2.rowsO.closed ([] : List (List AV)) 0
      have efr : PureC (env R) 63 [a2] fun r => r = SS (fresh (N ++ sc)) := by
        exact PureC.of_closed (args' := [a3]) (by kernel_rfl) (by kernel_rfl) (by simp [hc3]) (by simp [hr3.close]) (rfresh_spec hr3 (by rw [List.length_append]; omega))
      refine wCall_pure efr ?_
      rintro r rfl
      have hsc2 : ∀ w ∈ sc ++ [fresh (N ++ sc)], w.length ≤ 24 := by
        intro w hw
        rcases List.mem_append.1 hw with h | h
        · exact hsc w h
        · simp only [List.mem_cons, List.not_mem_nil, or_false] at h
          rw [h]; omega
      have ihb := ih b (by simp) [] (fun _ h => by cases h) (by simp; omega) (by omega)
      have ihbody := ih body (by simp) (sc ++ [fresh (N ++ sc)]) hsc2 (by simp; omega) (by omega)
      generalize fresh (N ++ sc) = f at hff hfl hex ihbody hsc2 ⊢
      refine st_add (by simp; omega) (st_add (by simp; omega) ?_)
      refine fadT _ _ _ (ld _ 3 _ rfl _ ?_)
      refine wIdx_rows ha (row := rowT b) (by omega) (by simp [rowsT]) (rowT_len b) (by omega) (ld_row (rowT_len b) ?_)
      refine wCall_pure (ihb _ _ (TRep.of_row b) (.inl (by simp [strRows]; exact .capped _))) ?_
      rintro r rfl
      refine st_add (by simp; omega) (st_add (by simp; omega) ?_)
      refine fadT _ _ _ (ld _ 3 _ rfl _ ?_)
      refine wIdx_rows ha (row := rowT body) (by omega) (by simp [rowsT]) (rowT_len body) (by omega) (ld_row (rowT_len body) ?_)
      refine hb0 _ _ ⟨by simp, ?_⟩
      refine wApp_rows (ts := []) (x := x2) (rows := []) (m := strRows sc) (.inl rfl) (by simp [LFE]) (by simp) strRows_row (by omega) (srcCells_rows (.inl hvs) strRows_row) strRows_ok (by rw [hsl]; simp; omega) (by rw [hsl]; simp; omega) ?_
      intro a4 x4 ha4
      refine hb1 f _ _ ⟨by simp, ?_⟩
      refine wApp_row (ts := []) (x := x4) (row := [.sc (.string ⟨f.toArray⟩)]) ha4 (by simp [LFE]) (by simpa using strRows_row) rfl (by omega) (by simp [okCell]) (by simp [hsl]; omega) (by simp [hsl]; omega) ?_
      intro a5 x5 ha5
      have e5 : [] ++ strRows sc ++ [[.sc (.string ⟨f.toArray⟩)]] = strRows (sc ++ [f]) := by simp [strRows]
      rw [e5] at ha5
      refine wCall_pure (ihbody _ _ (TRep.of_row body) ha5.rowsO) ?_
      rintro r rfl
      refine st_add (by simp; omega) (st_add (by simp; omega) ?_)
      have q1 : eqA (.ptr 0 3) (.ptr 0 3) = true := by simp [eqA]
      have q2 := eqA_self (.inl ha)
      have q3 : eqA (.eptr (rowT body) 0) (.eptr (rowT body) 0) = true := by simp [eqA, eqPL_row]
      have q4 : eqA (.agg ((rowT body).map AV.pv)) (.agg ((rowT body).map AV.pv)) = true := by
        obtain ⟨k1, n1, i1, t1⟩ := body
        simp [rowT, eqA, eqAL, eqP, eqV_int, eqV_str, eqPLL_rows]
      have q5 : ∀ s : Sto, wIdx s 4 a (I64 1) fun v => eqA v (.eptr (rowT body) 0) = true := fun s => wIdx_rows ha (row := rowT body) (by omega) (by simp [rowsT]) (rowT_len body) (by omega) q3
      have s1 := st_add (a := [40, 101, 120, 105, 115, 116, 115, 32]) (b := f) (K := fun v => eqA v (SS ([40, 101, 120, 105, 115, 116, 115, 32] ++ f)) = true) (by simp; omega) (eqA_SS _)
      have s2 := st_add (a := [40, 101, 120, 105, 115, 116, 115, 32] ++ f) (b := [32]) (K := fun v => eqA v (SS ([40, 101, 120, 105, 115, 116, 115, 32] ++ f ++ [32])) = true) (by simp; omega) (eqA_SS _)
      have s3 := st_add (a := [40, 101, 120, 105, 115, 116, 115, 32] ++ f ++ [32]) (b := fmt N b []) (K := fun v => eqA v (SS ([40, 101, 120, 105, 115, 116, 115, 32] ++ f ++ [32] ++ fmt N b [])) = true) (by simp; omega) (eqA_SS _)
      have s4 := st_add (a := [40, 101, 120, 105, 115, 116, 115, 32] ++ f ++ [32] ++ fmt N b []) (b := [32]) (K := fun v => eqA v (SS ([40, 101, 120, 105, 115, 116, 115, 32] ++ f ++ [32] ++ fmt N b [] ++ [32])) = true) (by simp; omega) (eqA_SS _)
      refine ⟨s1, s1, s1, s1, s2, s2, s2, s2, s3, s3, s3, s4, s4, s4, fadT _ _ _ q1, fadT _ _ _ q1, fadT _ _ _ q1, ld _ 3 _ rfl _ q2, ld _ 3 _ rfl _ q2, ld _ 3 _ rfl _ q2, q5 _, q5 _, q5 _, ld_row (rowT_len body) q4, ld_row (rowT_len body) q4, ld_row (rowT_len body) q4, ?_⟩
      exact fin _ (by rw [hex]) _
    have b6 : (k == 6) = false := by simpa using h6'
    rw [b6]
    refine co_f (in_eql ?_)
    have lst : ∀ hd : List UInt8, fmt N (.mk k n i ts) sc = hd ++ fmtL N ts sc ++ [41] → P37_3 R 0 0 0 nm v (.ptr 0 0) (SS hd) ⟨[[I64 k, SS n, I64 i, a]], []⟩ (QP Post) := by
      intro hd hw
      rw [hw] at hP hfl
      simp only [List.length_append, List.length_cons, List.length_nil] at hfl
      refine p37_3 ?_
      exact rlist_loop ha hvs (by omega) (fun t ht => ih t ht sc hsc (by have := depth_mem ht; omega) (by have := size_mem ht; omega)) (by omega) hP ts.length 0 hd (by omega) (by simp)
    by_cases h2 : k = 2
    · subst h2
      have hn := isId_len ((valid_name hv.1).1 rfl)
      refine co_t (fad _ _ (ld _ 3 _ rfl _ ?_))
      have hlenA : ∀ (s : Sto) (K : AV → Prop), K (I64 ts.length) → wLen s a K := by
        intro s K h
        simp only [wLen, ha.lenA, wO, rowsT_len]
        exact h
      refine hlenA _ _ (in_eql ?_)
      by_cases hz : ts.length = 0
      · have b0 : ((ts.length : Int) == 0) = true := by rw [hz]; rfl
        have b1 : (ts.length == 0) = true := by rw [hz]; rfl
        rw [b0]
        refine co_t (fad _ _ (ld _ 1 _ rfl _ ?_))
        exact fin _ (by rw [fmt_eq _ _ _ _ _ _ (by omega), b1]; rfl) _
      · have b0 : ((ts.length : Int) == 0) = false := by rw [beq_eq_false_iff_ne]; omega
        have b1 : (ts.length == 0) = false := by simpa using hz
        rw [b0]
        refine co_f (p37_2 (fad _ _ (ld _ 1 _ rfl _ (st_add (by simp; omega) ?_))))
        exact lst _ (by rw [fmt_eq _ _ _ _ _ _ (by omega), b1]; rfl)
    have b2 : (k == 2) = false := by simpa using h2
    rw [b2]
    refine co_f (in_eql ?_)
    by_cases h3 : k = 3
    · subst h3
      exact co_t (lst _ (by rw [fmt_eq _ _ _ _ _ _ (by omega)]; rfl))
    have b3 : (k == 3) = false := by simpa using h3
    rw [b3]
    have h4 : k = 4 := by omega
    subst h4
    exact co_f (lst _ (by rw [fmt_eq _ _ _ _ _ _ (by omega)]; rfl))
theorem rfmts_spec {N : List (List UInt8)} {nm : AV} (hnm : RowsA nm (strRows N)) : ∀ (l : List Ty), validL l = true → smallVs l = true → ∀ t ∈ l, ∀ (sc : List (List UInt8)), (∀ w ∈ sc, w.length ≤ 24) → N.length + sc.length + depth t < 260 → size t < 2 ^ 30 → RFmtS R N nm t sc
  | [], _, _, _, h => by cases h
  | e :: l, hv, hsm, t, h => by
    simp only [validL, Bool.and_eq_true] at hv
    simp only [smallVs, Bool.and_eq_true] at hsm
    rcases List.mem_cons.1 h with h' | h'
    · rw [h']
      exact rfmt_spec hnm e hv.1 hsm.1
    · exact rfmts_spec hnm l hv.2 hsm.2 t h'
end
end
end Go.Proofs.YtmipbilokjkjiaaGreatDoor
/-
  FormatType, the reference.
-/
namespace Go.Proofs.YtmipbilokjkjiaaGreatDoor
open Go.Tel
attribute [local simp] wNew wBox wBoxZ markT wCond wBuild fillS wO setCells wSt wLd wPart LFE wFad alive wInt wStr wGK wGd wPick wExt wLen wSlen wNot wNil okI ceI okB ceB okS ceS okL ceL okC ceC okO ceO okP ceP okG ceG okE ceE okR ceR okF ceF okX ceX okM ceM okN ceN okNf ceNf okNi ceNi ceA roL roC roO leL leC leO tpP tpC tpO clP clC clO clF clA clT clN clL nbP nbC nbO nbN nbL toPVs
section
variable {R : Nat → Option (List PV)}
theorem rformat_spec {t : Ty} (h : size t < 2 ^ 60) (ho : okT t) (hsm : smallV t = true) {x : AV} (hx : TRep t x) : PureC (env R) 12 [x] fun r => r = SS (textT t) := by
  have ev := rvalidate_spec (R := R) h ho hx
  have hx' := hx
  obtain ⟨k, n, i, ts⟩ := t
  obtain ⟨a, rfl, ha⟩ := hx
  suffices H : ∀ Post : AV → Prop, Post (SS (textT (.mk k n i ts))) → P12_0 R 0 0 0 (.agg [I64 k, SS n, I64 i, a]) ⟨[], []⟩ (QP Post) from
    e12 (u0 := .agg [I64 k, SS n, I64 i, a]) (by simp [ha.close]) (H _ rfl)
  intro Post hP
  refine p12_0 ?_
  simp [ha.ok]
  refine wCall_pure ev ?_
  rintro r rfl
  by_cases h0 : verdict (.mk k n i ts) = 0
  · obtain ⟨z1, z2, z3⟩ := verdict_zero h0
    have ht : textT (.mk k n i ts) = fmt (noms (.mk k n i ts)) (.mk k n i ts) [] := by
      unfold textT
      rw [h0]
      rfl
    rw [h0]
    simp
    refine p12_1 ?_
    have hld : ∀ (m : List (List AV)) (t : List (Nat × TypeId)) (K : AV → Prop), K (.agg [I64 k, SS n, I64 i, a]) → wLd (env R) ⟨[I64 k, SS n, I64 i, a] :: m, t⟩ (some 4) (.ptr 0 0) K := by
      intro m t K h
      simp
      exact h
    refine hld _ _ _ (hld _ _ _ ?_)
    refine wCall_pure (rnames_spec (by omega) hx') ?_
    rintro r ⟨N, hN, hmem, hlen⟩
    rw [ht] at hP
    have hfc := fmt_congr (N := N) (M := noms (.mk k n i ts)) hmem (.mk k n i ts) []
    rw [← hfc] at hP
    refine wCall_pure (rfmt_spec (R := R) hN (.mk k n i ts) z3 hsm [] (fun _ h => by cases h) (by simp; omega) (by omega) _ (.capped []) hx' (.inl (by simp [strRows]; exact .capped _))) ?_
    rintro r rfl
    refine ⟨hld _ _ _ ?_, ?_⟩
    · simp [eqA, eqAL, eqP, eqV_int, eqV_str, eqA_self (.inl ha)]
    · exact ⟨SS (fmt N (.mk k n i ts) []), by simp, hP⟩
  · have b0 : (verdict (.mk k n i ts) == 0) = false := by simpa using h0
    have ht : textT (.mk k n i ts) = [] := by
      unfold textT
      rw [b0]
      rfl
    rw [ht] at hP
    simp [QP, QI, h0]
    exact hP
end
end Go.Proofs.YtmipbilokjkjiaaGreatDoor
