/-
  strings.Builder: what is written.
-/
import Derived.Test.YtmipbilokjkjiaaGreatDoorFA
set_option linter.unusedSimpArgs false
set_option linter.unusedVariables false
namespace Go.Proofs.YtmipbilokjkjiaaGreatDoor
open Go.Tel
def byteRs (l : List UInt8) : List (List PV) := l.map fun b => [.sc (.int .u8 b.toNat)]
theorem byteRs_len (l : List UInt8) : (byteRs l).length = l.length := by simp [byteRs]
def BufR (ts : List (Nat × TypeId)) (out : List UInt8) (a : AV) : Prop := (a = .capped [] ∧ out = []) ∨ ∃ t, a = .own t (byteRs out) ∧ ts[t]? = some (out.length, 5)
theorem BufR.ok {ts : List (Nat × TypeId)} {out : List UInt8} {a : AV} (h : BufR ts out a) : okCell a = true := by rcases h with ⟨rfl, _⟩ | ⟨t, rfl, _⟩ <;> rfl
theorem BufR.noBlk {ts : List (Nat × TypeId)} {out : List UInt8} {a : AV} (h : BufR ts out a) : noBlk a = true := by rcases h with ⟨rfl, _⟩ | ⟨t, rfl, _⟩ <;> rfl
theorem BufR.cells {ts : List (Nat × TypeId)} {out : List UInt8} {a : AV} (h : BufR ts out a) : cellsOf a = [a] := by rcases h with ⟨rfl, _⟩ | ⟨t, rfl, _⟩ <;> rfl
theorem BufR.idsLt {ts : List (Nat × TypeId)} {out : List UInt8} {a : AV} (h : BufR ts out a) (n : Nat) : idsLt n a = true := by rcases h with ⟨rfl, _⟩ | ⟨t, rfl, _⟩ <;> rfl
theorem byteRs_row (l : List UInt8) : ((byteRs l).all fun r => r.length == 1) = true := by
  rw [List.all_eq_true]
  intro r hr
  obtain ⟨b, _, rfl⟩ := List.mem_map.1 hr
  rfl
theorem rowsBy_bytes : ∀ (l : List UInt8), rowsBy 1 l.length (l.map fun b => PV.sc (.int .u8 b.toNat)) = byteRs l
  | [] => rfl
  | b :: l => by
    have := rowsBy_bytes l
    simp [rowsBy, byteRs] at this ⊢
    exact this
theorem wApp_bytes {L : Lim} {bs : List (List AV)} {ts : List (Nat × TypeId)} {out w : List UInt8} {a y : AV} {K : AV → Sto → Prop} (ha : BufR ts out a) (hrt : L.rt = 0) (hl : out.length + w.length ≤ 2 ^ 40)
    (hy : srcCells ⟨bs, ts⟩ 1 y = some (w.map fun b => .pv (.sc (.int .u8 b.toNat)))) (h : ∀ a' ts', BufR ts' (out ++ w) a' → K a' ⟨bs, ts'⟩) : wApp false L ⟨bs, ts⟩ 5 1 1 a y K := by
  unfold wApp
  rw [hy]
  cases w with
  | nil =>
    have h0 := h a ts (by simpa using ha)
    rcases ha with ⟨rfl, _⟩ | ⟨t, rfl, _⟩ <;> exact h0
  | cons b w =>
    have htp : toPVs ((b :: w).map fun b => AV.pv (.sc (.int .u8 b.toNat))) = some ((b :: w).map fun b => PV.sc (.int .u8 b.toNat)) := by
      have := toPVs_map ((b :: w).map fun b => PV.sc (.int .u8 b.toNat))
      rw [List.map_map] at this
      exact this
    have hok : (((b :: w).map fun b => AV.pv (.sc (.int .u8 b.toNat))).all okCell) = true := by
      rw [List.all_eq_true]
      intro x hx
      obtain ⟨c, _, rfl⟩ := List.mem_map.1 hx
      rfl
    have hlen : ((b :: w).map fun b => AV.pv (.sc (.int .u8 b.toNat))).length / 1 = (b :: w).length := by simp
    have hrb := rowsBy_bytes (b :: w)
    have e : byteRs out ++ byteRs (b :: w) = byteRs (out ++ b :: w) := by simp [byteRs]
    rw [List.map_cons] at htp hok hlen ⊢
    simp only [wO, hok, hlen, htp, hrb, byteRs_len]
    refine ⟨trivial, ?_⟩
    simp only [List.length_cons] at hl ⊢
    rcases ha with ⟨rfl, rfl⟩ | ⟨t, rfl, ht⟩
    · simp only [List.length_nil] at hl ⊢
      refine ⟨⟨by omega, by omega, by simp⟩, ?_⟩
      have := h (.own ts.length (byteRs ([] ++ b :: w))) (ts ++ [(w.length + 1, 5)]) (.inr ⟨_, rfl, by simp⟩)
      simpa using this
    · simp only [byteRs_len]
      refine ⟨⟨by omega, by omega, ht, by omega, byteRs_row out⟩, ?_⟩
      have hlt := (List.getElem?_eq_some_iff.1 ht).1
      have := h (.own t (byteRs (out ++ b :: w))) (ts.set t (out.length + (w.length + 1), 5)) (.inr ⟨t, rfl, by simp [hlt]⟩)
      rw [e]
      exact this
def FBlk (id : Nat) (z : Bool) (buf nm : AV) : List AV := [bif z then .bz id 71 3 else .ptr id 0, buf, nm]
section
variable {R : Nat → Option (List PV)}
theorem copy_call {bs : List (List AV)} {id : Nat} {z : Bool} {buf nm : AV} {ts : List (Nat × TypeId)} (hid : bs[id]? = some (FBlk id z buf nm)) {L : Lim} (hro : L.ro = 0) (hn0 : L.n0 = 0) :
    CallE (env R) L 82 [.ptr id 0] ⟨bs, ts⟩ (.tuple []) ⟨bs.set id (FBlk id false buf nm), ts⟩ := by
  refine CallE.of_told Tryz.func82 (by kernel_rfl) (T := copyT okB) (by kernel_rfl) ?_
  cases z with
  | false =>
    have : bs.set id (FBlk id false buf nm) = bs := by
      obtain ⟨hl, e⟩ := List.getElem?_eq_some_iff.1 hid
      rw [← e]
      simp
    rw [this]
    simp only [copyT, hid, FBlk, cond_false]
    simp
  | true =>
    have h1 : okB 71 3 = true := by kernel_rfl
    have h2 : Nat.ble 0 id = true := by simp
    simp only [copyT, hid, FBlk, cond_true, h1, hro, hn0, h2]
    simp
def Wrote (bs : List (List AV)) (id : Nat) (nm : AV) (out : List UInt8) (s' : Sto) : Prop := ∃ z buf ts', s' = ⟨bs.set id (FBlk id z buf nm), ts'⟩ ∧ BufR ts' out buf
theorem FBlk_ids {id : Nat} {buf nm : AV} {ts : List (Nat × TypeId)} {out : List UInt8} {names : List (List PV)} {n : Nat} (hb : BufR ts out buf) (hnm : RowsA nm names) (h : id < n) : idsLtL n (FBlk id false buf nm) = true := by
  simp [FBlk, idsLtL, idsLt, hb.idsLt, hnm.idsLt, h]
theorem okS_fb {bs : List (List AV)} {id : Nat} {buf nm : AV} {ts : List (Nat × TypeId)} {out : List UInt8} {names : List (List PV)} (hs : OkS ⟨bs, []⟩) (hb : BufR ts out buf) (hnm : RowsA nm names) (hlt : id < bs.length) (m : List (List AV)) :
    (((bs.set id (FBlk id false buf nm) ++ m).take bs.length).all (idsLtL bs.length)) = true := by
  rw [take_set, List.all_eq_true]
  intro x hx
  rcases List.mem_or_eq_of_mem_set hx with h | h
  · exact hs x h
  · rw [h]; exact FBlk_ids hb hnm hlt
theorem writeString_spec {bs : List (List AV)} {id : Nat} {z : Bool} {buf nm : AV} {names : List (List PV)} {ts : List (Nat × TypeId)} {out w : List UInt8} (hid : bs[id]? = some (FBlk id z buf nm)) (hs : OkS ⟨bs, []⟩) (hb : BufR ts out buf) (hnm : RowsA nm names) (hl : out.length + w.length ≤ 2 ^ 40) {L : Lim} (hro : L.ro = 0) (hrt : L.rt = 0) :
    ∃ v s', Wrote bs id nm (out ++ w) s' ∧ CallE (env R) L 56 [.ptr id 0, SS w] ⟨bs, ts⟩ v s' := by
  have hlt : id < bs.length := (List.getElem?_eq_some_iff.1 hid).1
  refine m56 (by simp [noIdL, noId]) (p56_0 ?_)
  refine ⟨_, _, copy_call hid (L := LFE (env R) 56 0 L.ro L.rt) hro rfl, ?_⟩
  have g0 : ∀ buf', (bs.set id (FBlk id false buf' nm))[id]? = some (FBlk id false buf' nm) := fun buf' => by simp [hlt]
  have ss : ∀ b b' : List AV, (bs.set id b).set id b' = bs.set id b' := fun b b' => by simp
  have al : ∀ buf' t, alive ⟨bs.set id (FBlk id false buf' nm), t⟩ id = true := fun buf' t => by have := g0 buf'; simp only [alive, this]; rfl
  refine ⟨al _ _, al _ _, ?_⟩
  simp only [wLd, g0, wO, wPart]
  simp only [FBlk, List.getElem?_cons_succ, List.getElem?_cons_zero, Nat.zero_add]
  refine ⟨by simp, ?_⟩
  have hsrc : srcCells ⟨bs.set id [bif false then .bz id 71 3 else .ptr id 0, buf, nm], ts⟩ 1 (SS w) = some (w.map fun b => .pv (.sc (.int .u8 b.toNat))) := by
    simp [srcCells]
  refine wApp_bytes hb hrt hl hsrc ?_
  intro a' ts' ha'
  have := al buf ts'
  refine ⟨al _ _, al _ _, ?_⟩
  have e1 := ha'.cells
  have e2 := ha'.ok
  have e3 := ha'.noBlk
  have gg := g0 buf
  simp only [FBlk] at gg
  simp only [wSt, gg, wO, e1]
  refine ⟨⟨rfl, by simp, by simp [LFE, hro], by simp [e2], .inl (by simp [LFE]), by omega⟩, ?_⟩
  simp only [setCells, ss]
  simp only [wSlen]
  have e5 : bs.set id ([bif false then .bz id 71 3 else .ptr id 0, buf, nm].set (0 + 1) a') = bs.set id (FBlk id false a' nm) := rfl
  rw [e5]
  have hq := okS_fb hs ha' hnm hlt []
  simp only [List.append_nil] at hq
  have etk : (bs.set id (FBlk id false a' nm)).take bs.length = bs.set id (FBlk id false a' nm) := List.take_of_length_le (by simp)
  exact QM_tuple (ds := [I64 w.length, .pv (.sc .nilIface)]) hq (by simp [closeL, close]) ⟨false, a', ts', by rw [etk], ha'⟩
theorem writeByte_spec {bs : List (List AV)} {id : Nat} {z : Bool} {buf nm : AV} {names : List (List PV)} {ts : List (Nat × TypeId)} {out : List UInt8} {c : UInt8} (hid : bs[id]? = some (FBlk id z buf nm)) (hs : OkS ⟨bs, []⟩) (hb : BufR ts out buf) (hnm : RowsA nm names) (hl : out.length + 1 ≤ 2 ^ 40) {L : Lim} (hro : L.ro = 0) (hrt : L.rt = 0) :
    ∃ v s', Wrote bs id nm (out ++ [c]) s' ∧ CallE (env R) L 60 [.ptr id 0, .pv (.sc (.int .u8 c.toNat))] ⟨bs, ts⟩ v s' := by
  have hlt : id < bs.length := (List.getElem?_eq_some_iff.1 hid).1
  refine m60 (by simp [noIdL, noId]) (p60_0 ?_)
  refine ⟨_, _, copy_call hid (L := LFE (env R) 60 0 L.ro L.rt) hro rfl, ?_⟩
  have g0 : ∀ buf', (bs.set id (FBlk id false buf' nm))[id]? = some (FBlk id false buf' nm) := fun buf' => by simp [hlt]
  have ss : ∀ b b' : List AV, (bs.set id b).set id b' = bs.set id b' := fun b b' => by simp
  have al : ∀ buf' t, alive ⟨bs.set id (FBlk id false buf' nm), t⟩ id = true := fun buf' t => by have := g0 buf'; simp only [alive, this]; rfl
  refine ⟨al _ _, al _ _, ?_⟩
  simp only [wLd, g0, wO, wPart]
  simp only [FBlk, List.getElem?_cons_succ, List.getElem?_cons_zero, Nat.zero_add]
  have hb1 : ∀ (s : Sto) (K : AV → Sto → Prop), K (.capped [[.sc (.int .u8 c.toNat)]]) s → wBsl false s 1 [(.pv (.sc (.int .u8 0)))] 1 [(0, 1, .pv (.sc (.int .u8 c.toNat)))] K := by
    intro s K hK
    simp [wBsl, repl, fillS, wO, toPVs, toPV, rowsBy, setCells, cellsOf, okCell]
    exact hK
  refine hb1 _ _ ⟨by simp, ?_⟩
  have hsrc : srcCells ⟨bs.set id [bif false then .bz id 71 3 else .ptr id 0, buf, nm], ts⟩ 1 (.capped [[.sc (.int .u8 c.toNat)]]) = some ([c].map fun b => .pv (.sc (.int .u8 b.toNat))) := by
    simp [srcCells, rowsOf]
  refine wApp_bytes hb hrt (by simpa using hl) hsrc ?_
  intro a' ts' ha'
  refine ⟨al _ _, al _ _, ?_⟩
  have e1 := ha'.cells
  have e2 := ha'.ok
  have e3 := ha'.noBlk
  have gg := g0 buf
  simp only [FBlk] at gg
  simp only [wSt, gg, wO, e1]
  refine ⟨⟨rfl, by simp, by simp [LFE, hro], by simp [e2], .inl (by simp [LFE]), by omega⟩, ?_⟩
  simp only [setCells, ss]
  have e5 : bs.set id ([bif false then .bz id 71 3 else .ptr id 0, buf, nm].set (0 + 1) a') = bs.set id (FBlk id false a' nm) := rfl
  rw [e5]
  have hq := okS_fb hs ha' hnm hlt []
  simp only [List.append_nil] at hq
  have etk : (bs.set id (FBlk id false a' nm)).take bs.length = bs.set id (FBlk id false a' nm) := List.take_of_length_le (by simp)
  exact QM_pv hq ⟨false, a', ts', by rw [etk], ha'⟩
end
end Go.Proofs.YtmipbilokjkjiaaGreatDoor
/-
  What a writer writes: calls in a row.
-/
namespace Go.Proofs.YtmipbilokjkjiaaGreatDoor
open Go.Tel
section
variable {R : Nat → Option (List PV)}
def Wr (R : Nat → Option (List PV)) (f : FuncId) (args : List AV) (nm : AV) (w : List UInt8) : Prop := ∀ (bs : List (List AV)) (id : Nat) (z : Bool) (buf : AV) (ts : List (Nat × TypeId)) (out : List UInt8) (L : Lim),
  bs[id]? = some (FBlk id z buf nm) → OkS ⟨bs, []⟩ → BufR ts out buf → out.length + w.length ≤ 2 ^ 40 → L.ro = 0 → L.rt = 0 → ∃ v s', Wrote bs id nm (out ++ w) s' ∧ CallE (env R) L f (.ptr id 0 :: args) ⟨bs, ts⟩ v s'
theorem wr_string {nm : AV} {names : List (List PV)} (hnm : RowsA nm names) (w : List UInt8) : Wr R 56 [SS w] nm w :=
  fun _ _ _ _ _ _ _ h1 h2 h3 h4 h5 h6 => writeString_spec h1 h2 h3 hnm h4 h5 h6
theorem wr_byte {nm : AV} {names : List (List PV)} (hnm : RowsA nm names) (c : UInt8) : Wr R 60 [.pv (.sc (.int .u8 c.toNat))] nm [c] :=
  fun _ _ _ _ _ _ _ h1 h2 h3 h4 h5 h6 => writeByte_spec h1 h2 h3 hnm (by simpa using h4) h5 h6
def Fs (bs : List (List AV)) (id : Nat) (nm : AV) (out : List UInt8) (more : List (List AV)) (s : Sto) : Prop := ∃ z buf ts, s = ⟨bs.set id (FBlk id z buf nm) ++ more, ts⟩ ∧ BufR ts out buf
variable {bs : List (List AV)} {id : Nat} {nm : AV} {out w : List UInt8} {more : List (List AV)} {s : Sto}
theorem Fs.first {z : Bool} {buf : AV} {ts : List (Nat × TypeId)} (hid : bs[id]? = some (FBlk id z buf nm)) (hb : BufR ts out buf) (more : List (List AV)) : Fs bs id nm out more ⟨bs ++ more, ts⟩ := by
  refine ⟨z, buf, ts, ?_, hb⟩
  obtain ⟨hl, e⟩ := List.getElem?_eq_some_iff.1 hid
  rw [← e]
  simp
theorem FBlk_ids' {z : Bool} {buf : AV} {ts : List (Nat × TypeId)} {names : List (List PV)} {n : Nat} (hb : BufR ts out buf) (hnm : RowsA nm names) (h : id < n) : idsLtL n (FBlk id z buf nm) = true := by
  cases z <;> simp [FBlk, idsLtL, idsLt, hb.idsLt, hnm.idsLt, h]
theorem okS_fs {z : Bool} {buf : AV} {ts : List (Nat × TypeId)} {names : List (List PV)} (hs : OkS ⟨bs, []⟩) (hb : BufR ts out buf) (hnm : RowsA nm names) (hlt : id < bs.length) (hm : ∀ b ∈ more, ∀ n, idsLtL n b = true) : OkS ⟨bs.set id (FBlk id z buf nm) ++ more, []⟩ := by
  intro x hx
  rcases List.mem_append.1 hx with h | h
  · rcases List.mem_or_eq_of_mem_set h with h | h
    · exact idsLtL_mono (by simp) _ (hs x h)
    · rw [h]; exact FBlk_ids' hb hnm (by simp; omega)
  · exact hm x h _
theorem Fs.wr {names : List (List PV)} {f : FuncId} {args : List AV} (hF : Fs bs id nm out more s) (hW : Wr R f args nm w) (hs : OkS ⟨bs, []⟩) (hnm : RowsA nm names) (hlt : id < bs.length) (hm : ∀ b ∈ more, ∀ n, idsLtL n b = true) (hl : out.length + w.length ≤ 2 ^ 40) {L : Lim} (hro : L.ro = 0) (hrt : L.rt = 0) {K : AV → Sto → Prop}
    (h : ∀ v s', Fs bs id nm (out ++ w) more s' → K v s') : wCall (env R) L (.func (.func f) [] []) (.ptr id 0 :: args) s K := by
  obtain ⟨z, buf, ts, rfl, hb⟩ := hF
  have hg : (bs.set id (FBlk id z buf nm) ++ more)[id]? = some (FBlk id z buf nm) := by
    rw [List.getElem?_append_left (by simpa using hlt)]
    simp [hlt]
  obtain ⟨v, s', ⟨z', buf', ts', rfl, hb'⟩, hc⟩ := hW _ id z buf ts out L hg (okS_fs hs hb hnm hlt hm) hb hl hro hrt
  have e : (bs.set id (FBlk id z buf nm) ++ more).set id (FBlk id z' buf' nm) = bs.set id (FBlk id z' buf' nm) ++ more := by
    rw [List.set_append_left _ _ (by simpa using hlt)]
    simp
  rw [e] at hc
  exact ⟨v, _, by simpa using hc, h v _ ⟨z', buf', ts', rfl, hb'⟩⟩
theorem Fs.nil (hF : Fs bs id nm out more s) (hlt : id < bs.length) {K : AV → Prop} (h : K (.ptr id 0)) : wNil s (.ptr id 0) K := by
  obtain ⟨z, buf, ts, rfl, hb⟩ := hF
  have hg : (bs.set id (FBlk id z buf nm) ++ more)[id]? = some (FBlk id z buf nm) := by
    rw [List.getElem?_append_left (by simpa using hlt)]
    simp [hlt]
  refine ⟨?_, h⟩
  simp only [alive, hg]
  rfl
theorem Fs.fad (hF : Fs bs id nm out more s) (hlt : id < bs.length) {d : Nat} {K : AV → Prop} (h : K (.ptr id d)) : wFad s (.ptr id 0) d K := by
  obtain ⟨z, buf, ts, rfl, hb⟩ := hF
  have hg : (bs.set id (FBlk id z buf nm) ++ more)[id]? = some (FBlk id z buf nm) := by
    rw [List.getElem?_append_left (by simpa using hlt)]
    simp [hlt]
  refine ⟨?_, by simpa using h⟩
  simp only [alive, hg]
  rfl
theorem Fs.get (hF : Fs bs id nm out more s) (j : Nat) : s.bs[bs.length + j]? = more[j]? := by
  obtain ⟨z, buf, ts, rfl, hb⟩ := hF
  exact mid_get _ _ _
theorem Fs.get0 (hF : Fs bs id nm out more s) : s.bs[bs.length]? = more[0]? := hF.get 0
theorem Fs.bfad {b : List AV} (hF : Fs bs id nm out (b :: more) s) {c : AV} {r : List AV} (hb : b = c :: r) {d : Nat} {K : AV → Prop} (h : K (.ptr bs.length d)) : wFad s (.ptr bs.length 0) d K := by
  refine ⟨?_, by simpa using h⟩
  simp only [alive, hF.get0, List.getElem?_cons_zero, hb]
theorem Fs.bld {b : List AV} (hF : Fs bs id nm out (b :: more) s) {d : Nat} {c : AV} (hc : b[d]? = some c) {K : AV → Prop} (h : K c) : wLd (env R) s none (.ptr bs.length d) K := by
  simp only [wLd, hF.get0, List.getElem?_cons_zero, wO, wPart, hc]
  exact h
theorem Fs.fin {names : List (List PV)} (hF : Fs bs id nm out more s) (hs : OkS ⟨bs, []⟩) (hnm : RowsA nm names) (hlt : id < bs.length) {rr : Bool} {Post : AV → Sto → Prop} (h : ∀ s', Wrote bs id nm out s' → Post (.tuple []) s') : QM rr bs.length Post (.tuple []) s := by
  obtain ⟨z, buf, ts, rfl, hb⟩ := hF
  refine QM_tuple (ds := []) ?_ (by simp [closeL]) (h _ ⟨z, buf, ts, by simp only [take_set], hb⟩)
  rw [take_set, List.all_eq_true]
  intro x hx
  rcases List.mem_or_eq_of_mem_set hx with h | h
  · exact hs x h
  · rw [h]; exact FBlk_ids' hb hnm hlt
theorem Fs.push (hF : Fs bs id nm out more s) (b : List AV) : Fs bs id nm out (more ++ [b]) ⟨s.bs ++ [b], s.ts⟩ := by
  obtain ⟨z, buf, ts, rfl, hb⟩ := hF
  exact ⟨z, buf, ts, by simp, hb⟩
theorem Fs.toks (hF : Fs bs id nm out more s) (x : List (Nat × TypeId)) : Fs bs id nm out more ⟨s.bs, s.ts ++ x⟩ := by
  obtain ⟨z, buf, ts, rfl, hb⟩ := hF
  refine ⟨z, buf, ts ++ x, rfl, ?_⟩
  rcases hb with h | ⟨t, h1, h2⟩
  · exact .inl h
  · exact .inr ⟨t, h1, by rw [List.getElem?_append_left (List.getElem?_eq_some_iff.1 h2).1, h2]⟩
theorem Fs.len (hF : Fs bs id nm out more s) : s.bs.length = bs.length + more.length := by
  obtain ⟨z, buf, ts, rfl, hb⟩ := hF
  simp
end
end Go.Proofs.YtmipbilokjkjiaaGreatDoor
/-
  The text of a term; lists, the program.
-/
namespace Go.Proofs.YtmipbilokjkjiaaGreatDoor
open Go.Tel
attribute [local simp] wNew wBox wBoxZ markT wCond wBuild fillS wO setCells wSt wLd wPart LFE wFad alive wInt wStr wGK wGd wPick wExt wLen wSlen wNot wNil okI ceI okB ceB okS ceS okL ceL okC ceC okO ceO okP ceP okG ceG okE ceE okR ceR okF ceF okX ceX okM ceM okN ceN okNf ceNf okNi ceNi ceA roL roC roO leL leC leO tpP tpC tpO clP clC clO clF clA clT clN clL nbP nbC nbO nbN nbL toPVs
def varT (sc : List (List UInt8)) (i : Int) : List UInt8 := match sc[((sc.length : Int) - 1 - i).toNat]? with
  | some w => bif decide (i < sc.length) then w else 36 :: dig (i - sc.length).toNat
  | none => 36 :: dig (i - sc.length).toNat
def hdT (k : Int) (n : List UInt8) : List UInt8 := bif k == 2 then n else bif k == 3 then [116, 117, 112, 108, 101] else [117, 110, 105, 111, 110]
mutual
def fmt (N : List (List UInt8)) : Ty → List (List UInt8) → List UInt8
  | .mk k n i ts, sc =>
    bif k == 0 then [65, 110, 121]
    else bif k == 1 then [78, 101, 118, 101, 114]
    else bif k == 5 then varT sc i
    else bif k == 6 then
      match ts with
      | [b, body] => [40, 101, 120, 105, 115, 116, 115, 32] ++ fresh (N ++ sc) ++ [32] ++ fmt N b [] ++ [32] ++ fmt N body (sc ++ [fresh (N ++ sc)]) ++ [41]
      | _ => []
    else bif k == 2 && ts.length == 0 then n
    else [40] ++ hdT k n ++ fmtL N ts sc ++ [41]
def fmtL (N : List (List UInt8)) : List Ty → List (List UInt8) → List UInt8
  | [], _ => []
  | t :: l, sc => [32] ++ fmt N t sc ++ fmtL N l sc
end
theorem fmt_eq (N : List (List UInt8)) (k : Int) (n : List UInt8) (i : Int) (ts : List Ty) (sc : List (List UInt8)) (h6 : k ≠ 6) : fmt N (.mk k n i ts) sc =
    bif k == 0 then [65, 110, 121]
    else bif k == 1 then [78, 101, 118, 101, 114]
    else bif k == 5 then varT sc i
    else bif k == 2 && ts.length == 0 then n
    else [40] ++ hdT k n ++ fmtL N ts sc ++ [41] := by
  have b6 : (k == 6) = false := by simpa using h6
  rcases ts with _ | ⟨b, _ | ⟨body, _ | ⟨z, r⟩⟩⟩ <;> rw [fmt] <;> first
    | (simp only [b6, cond_false])
    | (intro b body h
       simp at h)
theorem fmt_ex (N : List (List UInt8)) (n : List UInt8) (i : Int) (b body : Ty) (sc : List (List UInt8)) : fmt N (.mk 6 n i [b, body]) sc =
    [40, 101, 120, 105, 115, 116, 115, 32] ++ fresh (N ++ sc) ++ [32] ++ fmt N b [] ++ [32] ++ fmt N body (sc ++ [fresh (N ++ sc)]) ++ [41] := by
  rw [fmt]
  rfl
theorem fmt_bad (N : List (List UInt8)) (n : List UInt8) (i : Int) (ts : List Ty) (sc : List (List UInt8)) (h : ts.length ≠ 2) : fmt N (.mk 6 n i ts) sc = [] := by
  rcases ts with _ | ⟨b, _ | ⟨body, _ | ⟨z, r⟩⟩⟩ <;> first
    | exact absurd rfl h
    | (rw [fmt]
       · rfl
       · intro b body h
         simp at h)
mutual
def smallV : Ty → Bool
  | .mk k _ i ts => (!(k == 5) || decide (i < 100)) && smallVs ts
def smallVs : List Ty → Bool
  | [] => true
  | t :: l => smallV t && smallVs l
end
theorem smallVs_mem : ∀ {l : List Ty} {a : Ty}, smallVs l = true → a ∈ l → smallV a = true
  | [], _, _, h => by cases h
  | b :: l, a, h1, h => by
    simp only [smallVs, Bool.and_eq_true] at h1
    rcases List.mem_cons.1 h with rfl | h
    · exact h1.1
    · exact smallVs_mem h1.2 h
theorem validL_mem : ∀ {l : List Ty} {a : Ty}, validL l = true → a ∈ l → valid a = true
  | [], _, _, h => by cases h
  | b :: l, a, h1, h => by
    simp only [validL, Bool.and_eq_true] at h1
    rcases List.mem_cons.1 h with rfl | h
    · exact h1.1
    · exact validL_mem h1.2 h
theorem depth_mem : ∀ {l : List Ty} {a : Ty}, a ∈ l → depth a ≤ depthL l
  | [], _, h => by cases h
  | b :: l, a, h => by
    simp only [depthL]
    rcases List.mem_cons.1 h with rfl | h
    · omega
    · have := depth_mem h; omega
section
variable {R : Nat → Option (List PV)}
def FmtS (R : Nat → Option (List PV)) (N : List (List UInt8)) (nm : AV) (t : Ty) (sc : List (List UInt8)) (v : AV) : Prop := ∀ (x : AV), TRep t x → Wr R 30 [x, v] nm (fmt N t sc)
theorem list_wr {N : List (List UInt8)} {nm : AV} {names : List (List PV)} (hnm : RowsA nm names) {ts : List Ty} {a v : AV} {sc : List (List UInt8)} (ha : RowsA a (rowsT ts)) (hl : ts.length < 2 ^ 30) {hd : List UInt8} (ih : ∀ t ∈ ts, FmtS R N nm t sc v) : Wr R 57 [SS hd, a, v] nm ([40] ++ hd ++ fmtL N ts sc ++ [41]) := by
  intro bs id z buf tk out L hid hs hb hlen hro hrt
  have hlt : id < bs.length := (List.getElem?_eq_some_iff.1 hid).1
  simp only [List.length_append, List.length_cons, List.length_nil] at hlen
  refine m57 (by simp [noIdL, noId]) (p57_0 ?_)
  have hF0 : Fs bs id nm out [] ⟨bs, tk⟩ := by
    have := Fs.first hid hb []
    simpa using this
  refine hF0.nil hlt (hF0.fad hlt (st_add (by simp; omega) ?_))
  refine hF0.wr (wr_string hnm ([40] ++ hd)) hs hnm hlt (fun b h => by cases h) (by simp; omega) (by simp [LFE, hro]) (by simp [LFE, hrt]) ?_
  intro v1 s1 hF1
  have hlenA : ∀ (s : Sto) (K : AV → Prop), K (I64 ts.length) → wLen s a K := by
    intro s K h
    simp only [wLen, ha.lenA, wO, rowsT_len]
    exact h
  refine hlenA _ _ ?_
  suffices H : ∀ (j i : Nat) (more : List (List AV)) (s : Sto) (don : List UInt8), i + j = ts.length → Fs bs id nm (out ++ ([40] ++ hd) ++ don) more s → (∀ b ∈ more, ∀ n, idsLtL n b = true) → don ++ fmtL N (ts.drop i) sc = fmtL N ts sc →
      P57_1 R 0 L.ro L.rt (.ptr id 0) v a (I64 ts.length) (I64 i) s (QM (L.rr 57) bs.length fun _ s' => Wrote bs id nm (out ++ ([40] ++ hd ++ fmtL N ts sc ++ [41])) s') by
    have := H ts.length 0 [] s1 [] (by omega) (by simpa using hF1) (fun b h => by cases h) (by simp)
    simpa using this
  intro j
  induction j with
  | zero =>
    intro i more s don hi hF hm hd'
    refine p57_1 (in_lss ?_)
    have h1 : ¬ ((i : Int) < ts.length) := by omega
    simp only [h1, decide_false]
    have h2 : ts.drop i = [] := List.drop_of_length_le (by omega)
    rw [h2] at hd'
    simp only [fmtL, List.append_nil] at hd'
    subst hd'
    refine co_f (p57_3 (hF.nil hlt (hF.fad hlt ?_)))
    refine hF.wr (wr_byte hnm 41) hs hnm hlt hm (by simp; omega) (by simp [LFE, hro]) (by simp [LFE, hrt]) ?_
    intro v2 s2 hF2
    refine hF2.fin hs hnm hlt fun s' h => ?_
    simpa using h
  | succ j ihj =>
    intro i more s don hi hF hm hd'
    refine p57_1 (in_lss ?_)
    have h1 : ((i : Int) < ts.length) := by omega
    simp only [h1, decide_true]
    refine co_t (p57_2 ?_)
    obtain ⟨t, ht⟩ : ∃ t, ts[i]? = some t := ⟨_, List.getElem?_eq_getElem (by omega)⟩
    rw [drop_cons ht] at hd'
    simp only [fmtL] at hd'
    have hsum : (fmtL N ts sc).length = don.length + 1 + (fmt N t sc).length + (fmtL N (ts.drop (i + 1)) sc).length := by
      rw [← hd']
      simp
      omega
    refine wIdx_rows ha (row := rowT t) (by omega) (by simpa using rowsT_get ht) (rowT_len t) (by omega) (ld_row (rowT_len t) ?_)
    have hrep := TRep.of_row t
    have hF' := hF.push [I64 0, SS [], I64 0, .capped []]
    have hlen' := hF.len
    simp only [wNew]
    obtain ⟨k, n, x, es⟩ := t
    have hF2 := hF.push ((rowT (.mk k n x es)).map .pv)
    have hst : ∀ K : Sto → Prop, K ⟨s.bs ++ [(rowT (.mk k n x es)).map .pv], s.ts⟩ → wSt (LFE (env R) 57 0 L.ro L.rt) ⟨s.bs ++ [[I64 0, SS [], I64 0, .capped []]], s.ts⟩ 4 (.ptr s.bs.length 0) (.agg ((rowT (.mk k n x es)).map .pv)) K := by
      intro K h
      simp [rowT, hro]
      simpa [rowT] using h
    refine hst _ ?_
    have hld : ∀ (t : List (Nat × TypeId)) (s' : Sto), s'.bs[s.bs.length]? = some ((rowT (.mk k n x es)).map .pv) → ∀ K : AV → Prop, K (.agg ((rowT (.mk k n x es)).map .pv)) → wLd (env R) s' (some 4) (.ptr s.bs.length 0) K := by
      intro t s' hg K h
      simp only [wLd, hg, wO, wPart, List.length_map, rowT_len, List.drop_zero]
      refine ⟨by omega, ?_⟩
      rw [List.take_of_length_le (by simp [rowT_len])]
      exact h
    refine hF2.nil hlt (hF2.fad hlt ?_)
    have hm2 : ∀ b ∈ more ++ [(rowT (.mk k n x es)).map .pv], ∀ n, idsLtL n b = true := by
      intro b hb' n'
      rcases List.mem_append.1 hb' with h | h
      · exact hm b h n'
      · simp only [List.mem_cons, List.not_mem_nil, or_false] at h
        rw [h]
        simp [rowT, idsLtL, idsLt]
    refine hF2.wr (wr_byte hnm 32) hs hnm hlt hm2 (by simp; omega) (by simp [LFE, hro]) (by simp [LFE, hrt]) ?_
    intro v3 s3 hF3
    refine hld [] s3 (by rw [hlen', hF3.get]; simp) _ ?_
    refine hF3.wr (ih _ (List.mem_of_getElem? ht) _ hrep) hs hnm hlt hm2 (by simp; omega) (by simp [LFE, hro]) (by simp [LFE, hrt]) ?_
    intro v4 s4 hF4
    refine p57_4 (in_add (by omega) (by omega) ?_)
    have := ihj (i + 1) _ s4 (don ++ ([32] ++ fmt N (.mk k n x es) sc)) (by omega) (by simpa using hF4) hm2 (by rw [← hd']; simp)
    simpa using this
end
end Go.Proofs.YtmipbilokjkjiaaGreatDoor
/-
  The text of a term, the program.
-/
namespace Go.Proofs.YtmipbilokjkjiaaGreatDoor
open Go.Tel
attribute [local simp] wNew wBox wBoxZ markT wCond wBuild fillS wO setCells wSt wLd wPart LFE wFad alive wInt wStr wGK wGd wPick wExt wLen wSlen wNot wNil okI ceI okB ceB okS ceS okL ceL okC ceC okO ceO okP ceP okG ceG okE ceE okR ceR okF ceF okX ceX okM ceM okN ceN okNf ceNf okNi ceNi ceA roL roC roO leL leC leO tpP tpC tpO clP clC clO clF clA clT clN clL nbP nbC nbO nbN nbL toPVs
theorem root_kind {k i : Int} {n : List UInt8} {ts : List Ty} (h : root k n i ts = true) : (k = 0 ∨ k = 1 ∨ k = 2 ∨ k = 3 ∨ k = 4 ∨ k = 5 ∨ k = 6) ∧ (k = 5 → 0 ≤ i ∧ i ≤ 200) ∧ (k = 6 → ts.length = 2) := by
  simp only [root, Bool.and_eq_true] at h
  have h3 := h.2
  unfold shape at h3
  by_cases h0 : k = 0
  · subst h0; simp
  by_cases h1 : k = 1
  · subst h1; simp
  by_cases h2 : k = 2
  · subst h2; simp
  by_cases h3' : k = 3
  · subst h3'; simp
  by_cases h4 : k = 4
  · subst h4; simp
  by_cases h5 : k = 5
  · subst h5
    simp at h3
    exact ⟨by simp, fun _ => ⟨h3.1.2, h3.2⟩, by simp⟩
  by_cases h6 : k = 6
  · subst h6
    simp at h3
    exact ⟨by simp, by simp, fun _ => h3.1⟩
  simp [h0, h1, h2, h3', h4, h5, h6] at h3
section
variable {R : Nat → Option (List PV)}
theorem cloneO_spec {vars : List (List UInt8)} {v : AV} (hv : RowsO v (strRows vars)) (h0 : vars = [] → RowsA v []) (hl : vars.length < 2 ^ 40) {L : Lim} {s : Sto} (hrt : L.rt ≤ s.ts.length) :
    ∃ r s', (∃ x', s' = ⟨s.bs, s.ts ++ x'⟩ ∧ Apd s.ts.length (s.ts ++ x') 9 r (strRows vars)) ∧ CallE (env R) L 61 [v] s r s' := by
  rcases hv with hv | ⟨t, rfl⟩
  · exact cloneS_spec hv hl hrt
  cases vars with
  | nil =>
    have := h0 rfl
    rcases this with h | h <;> simp at h
  | cons w l =>
    have he : emptyArg [AV.own t (strRows (w :: l))] = false := rfl
    have key : P61_0 R L.n0 L.ro L.rt (.own t (strRows (w :: l))) s (fun r s' => ∃ x', s' = ⟨s.bs, s.ts ++ x'⟩ ∧ Apd s.ts.length (s.ts ++ x') 9 r (strRows (w :: l))) := by
      refine p61_0 ?_
      have hnn : ∀ K : AV → Prop, K (BB false) → wNeN s (some 1) (nilV (.own t (strRows (w :: l)))) (some 1) .eql (.own t (strRows (w :: l))) (.capped []) K := by
        intro K h
        refine ⟨?_, h⟩
        rfl
      refine hnn _ ⟨by simp, fun _ => p61_1 ?_⟩
      simp [wBsl, repl, fillS, wO, toPVs, rowsBy]
      have hL : (strRows (w :: l)).length = l.length + 1 := by simp [strRows]
      simp only [List.length_cons] at hl
      have := wApp_rows (L := LFE (env R) 61 L.n0 L.ro L.rt) (bs := s.bs) (ts := s.ts) (x := []) (e := 9) (k := 1) (bytes := 16) (a := .capped []) (y := .own t (strRows (w :: l))) (rows := []) (m := strRows (w :: l))
        (K := fun r s' => ∃ x', s' = ⟨s.bs, s.ts ++ x'⟩ ∧ Apd s.ts.length (s.ts ++ x') 9 r (strRows (w :: l))) (.inl rfl) hrt (by simp) strRows_row (by omega) (srcCells_rows (.inr ⟨t, rfl⟩) strRows_row) strRows_ok (by rw [hL]; simp; omega) (by rw [hL]; simp; omega)
        (fun a x h => ⟨x, rfl, by simpa using h⟩)
      simpa using this
    exact call_esc2 (fn := Tryz.f61) (body := b61) Tryz.func61 (by kernel_rfl) (by kernel_rfl) (by kernel_rfl) (by kernel_rfl) he (Nat.le_of_ble_eq_true (by kernel_rfl)) (mpK key (by kernel_rfl))
theorem containsO_spec {l : List (List UInt8)} {w : List UInt8} {y : AV} (hy : RowsO y (strRows l)) (hl : l.length < 2 ^ 60) : PureC (env R) 84 [y, SS w] fun r => r = BB (l.contains w) := by
  obtain ⟨y', hc, hr⟩ := hy.closed ([] : List (List AV)) 0
  exact PureC.of_closed (args' := [y', SS w]) (by kernel_rfl) (by kernel_rfl) (by simp [hc]) (by simp [hr.close]) (containsS_spec hr hl)
theorem fresh_call {bs : List (List AV)} {id : Nat} {nm sc : AV} {out : List UInt8} {more : List (List AV)} {N S : List (List UInt8)} {s : Sto} (hF : Fs bs id nm out more s) (hlt : id < bs.length) (hs : OkS ⟨bs, []⟩) (hm : ∀ b ∈ more, ∀ n, idsLtL n b = true) (hnm : RowsA nm (strRows N)) (hsc : RowsO sc (strRows S)) (hN : N.length + S.length < 260)
    {L : Lim} {K : AV → Sto → Prop} (h : K (SS (fresh (N ++ S))) s) : wCall (env R) L (.func (.func 59) [] []) [.ptr id 0, sc] s K := by
  obtain ⟨z, buf, ts, rfl, hb⟩ := hF
  have hg : (bs.set id (FBlk id z buf nm) ++ more)[id]? = some (FBlk id z buf nm) := by
    rw [List.getElem?_append_left (by simpa using hlt)]
    simp [hlt]
  have hok := okS_fs (z := z) (more := more) hs hb hnm hlt hm
  refine wCall_do (Post := fun v s' => v = SS (fresh (N ++ S)) ∧ s' = ⟨bs.set id (FBlk id z buf nm) ++ more, ts⟩) (m59 (by simp [noIdL, noId]) (p59_0 ?_)) ?_
  · refine fresh_loop (N := N) (S := S) hg hnm (by omega) (by omega) (fun w => ?_) 259 0 (by omega) (fresh_new (by rw [List.length_append]; exact hN)) ?_
    · obtain ⟨r, h1, h2⟩ := containsO_spec (R := R) (w := w) hsc (by omega)
      exact ⟨r, h1, h2⟩
    · refine QM_pv ?_ ⟨rfl, ?_⟩
      · rw [List.take_of_length_le (Nat.le_refl _), List.all_eq_true]
        exact fun x hx => hok x hx
      · simp only
        rw [List.take_of_length_le (Nat.le_refl _)]
  · rintro v s' ⟨rfl, rfl⟩
    exact h
mutual
theorem fmt_spec {N : List (List UInt8)} {nm : AV} (hnm : RowsA nm (strRows N)) : ∀ (t : Ty), valid t = true → smallV t = true → ∀ (sc : List (List UInt8)) (v : AV), RowsO v (strRows sc) → (sc = [] → RowsA v []) → N.length + sc.length + depth t < 260 → size t < 2 ^ 30 → FmtS R N nm t sc v
  | .mk k n i ts, hv, hsm, sc, v, hsc, hsc0, hlen, hsz => by
    intro x hx bs id z buf tk out L hid hs hb hl hro hrt
    obtain ⟨a, rfl, ha⟩ := hx
    have hlt : id < bs.length := (List.getElem?_eq_some_iff.1 hid).1
    simp only [valid, Bool.and_eq_true] at hv
    simp only [smallV, Bool.and_eq_true] at hsm
    simp only [depth] at hlen
    obtain ⟨hkind, hk5, hk6⟩ := root_kind hv.1
    have ih := fmts_spec hnm ts hv.2 hsm.2
    simp only [size] at hsz
    have h6 : ts.length < 2 ^ 30 := by have := sizeL_len ts; omega
    refine m30 (by simp [noIdL, noId]) (p30_0 ?_)
    have hbox : ∀ K : AV → Sto → Prop, K (.ptr bs.length 0) ⟨bs ++ [[I64 k, SS n, I64 i, a]], tk⟩ → wBox ⟨bs, tk⟩ (.agg [I64 k, SS n, I64 i, a]) K := by
      intro K h
      simp only [wBox, wNew]
      refine ⟨?_, h⟩
      simp [ha.ok]
    refine hbox _ ?_
    have hF : Fs bs id nm out [[I64 k, SS n, I64 i, a]] ⟨bs ++ [[I64 k, SS n, I64 i, a]], tk⟩ := Fs.first hid hb _
    have hm : ∀ b ∈ [[I64 k, SS n, I64 i, a]], ∀ m, idsLtL m b = true := by
      intro b hb' m
      simp only [List.mem_cons, List.not_mem_nil, or_false] at hb'
      rw [hb']
      simp [idsLtL, idsLt, ha.idsLt]
    have ro' : (LFE (env R) 30 0 L.ro L.rt).ro = 0 := hro
    have rt' : (LFE (env R) 30 0 L.ro L.rt).rt = 0 := hrt
    have one : ∀ w : List UInt8, fmt N (.mk k n i ts) sc = w → wNil ⟨bs ++ [[I64 k, SS n, I64 i, a]], tk⟩ (.ptr id 0) fun a13 => wFad ⟨bs ++ [[I64 k, SS n, I64 i, a]], tk⟩ a13 0 fun a14 => wCall (env R) (LFE (env R) 30 0 L.ro L.rt) (.func (.func 56) [] []) [a14, SS w] ⟨bs ++ [[I64 k, SS n, I64 i, a]], tk⟩ fun a15 s1 =>
        QM (L.rr 30) bs.length (fun _ s' => Wrote bs id nm (out ++ fmt N (.mk k n i ts) sc) s') (.tuple []) s1 := by
      intro w hw
      refine hF.nil hlt (hF.fad hlt ?_)
      rw [hw] at hl
      refine hF.wr (wr_string hnm w) hs hnm hlt hm hl ro' rt' ?_
      intro v1 s1 hF1
      refine hF1.fin hs hnm hlt fun s' h => ?_
      rw [hw]
      exact h
    refine hF.bfad rfl (hF.bld rfl (in_eql ?_))
    have lst : ∀ hd : List UInt8, fmt N (.mk k n i ts) sc = [40] ++ hd ++ fmtL N ts sc ++ [41] → wCall (env R) (LFE (env R) 30 0 L.ro L.rt) (.func (.func 57) [] []) [.ptr id 0, SS hd, a, v] ⟨bs ++ [[I64 k, SS n, I64 i, a]], tk⟩ fun a28 s1 =>
        QM (L.rr 30) bs.length (fun _ s' => Wrote bs id nm (out ++ fmt N (.mk k n i ts) sc) s') (.tuple []) s1 := by
      intro hd hw
      rw [hw] at hl
      refine hF.wr (list_wr hnm (hd := hd) ha h6 (fun t ht => ih t ht sc v hsc hsc0 (by have := depth_mem ht; omega) (by have := size_mem ht; omega))) hs hnm hlt hm hl ro' rt' ?_
      intro v1 s1 hF1
      refine hF1.fin hs hnm hlt fun s' h => ?_
      rw [hw]
      exact h
    by_cases h0 : k = 0
    · subst h0
      exact co_t (one _ (by rw [fmt_eq _ _ _ _ _ _ (by omega)]; rfl))
    have b0 : (k == 0) = false := by simpa using h0
    rw [b0]
    refine co_f (in_eql ?_)
    by_cases h1 : k = 1
    · subst h1
      exact co_t (one _ (by rw [fmt_eq _ _ _ _ _ _ (by omega)]; rfl))
    have b1 : (k == 1) = false := by simpa using h1
    rw [b1]
    refine co_f (in_eql ?_)
    by_cases h3 : k = 3
    · subst h3
      refine co_t (hF.bfad rfl (hF.bld rfl ?_))
      exact lst _ (by rw [fmt_eq _ _ _ _ _ _ (by omega)]; rfl)
    have b3 : (k == 3) = false := by simpa using h3
    rw [b3]
    refine co_f (in_eql ?_)
    by_cases h4 : k = 4
    · subst h4
      refine co_t (hF.bfad rfl (hF.bld rfl ?_))
      exact lst _ (by rw [fmt_eq _ _ _ _ _ _ (by omega)]; rfl)
    have b4 : (k == 4) = false := by simpa using h4
    rw [b4]
    refine co_f (in_eql ?_)
    by_cases h5 : k = 5
    · subst h5
      obtain ⟨hi0, hi200⟩ := hk5 rfl
      have hi100 : i < 100 := by simpa using hsm.1
      refine co_t ?_
      have hlenS : ∀ (s : Sto) (K : AV → Prop), K (I64 sc.length) → wLen s v K := by
        intro s K h
        simp only [wLen, hsc.lenA, wO, strRows_len]
        exact h
      have hw : fmt N (.mk 5 n i ts) sc = varT sc i := by
        rw [fmt_eq _ _ _ _ _ _ (by omega)]
        rfl
      rw [hw] at hl ⊢
      refine hlenS _ _ (in_sub (by omega) (by omega) (hF.bfad rfl (hF.bld rfl (in_sub (by omega) (by omega) (in_geq ?_)))))
      by_cases hc : (sc.length : Int) - 1 - i ≥ 0
      · have bc : decide ((sc.length : Int) - 1 - i ≥ 0) = true := by simpa using hc
        rw [bc]
        obtain ⟨w, hw'⟩ : ∃ w, sc[((sc.length : Int) - 1 - i).toNat]? = some w := ⟨_, List.getElem?_eq_getElem (by omega)⟩
        have hv' : varT sc i = w := by
          unfold varT
          rw [hw']
          have : decide (i < (sc.length : Int)) = true := by simp; omega
          simp [this]
        rw [hv'] at hl ⊢
        refine co_t (hF.nil hlt (hF.fad hlt ?_))
        refine wIdx_rowsO hsc (row := [.sc (.string ⟨w.toArray⟩)]) (by omega) (by simpa using strRows_get hw') rfl (by omega) (ld_str ?_)
        refine hF.wr (wr_string hnm w) hs hnm hlt hm hl ro' rt' ?_
        intro v1 s1 hF1
        exact hF1.fin hs hnm hlt fun s' h => h
      · have bc : decide ((sc.length : Int) - 1 - i ≥ 0) = false := by simpa using hc
        rw [bc]
        obtain ⟨j, hj⟩ := Int.eq_ofNat_of_zero_le (show 0 ≤ i - (sc.length : Int) by omega)
        have hv' : varT sc i = 36 :: dig j := by
          unfold varT
          have : decide (i < (sc.length : Int)) = false := by simp; omega
          rw [hj]
          cases sc[((sc.length : Int) - 1 - i).toNat]? <;> simp [this]
        rw [hv'] at hl ⊢
        refine co_f (hF.nil hlt (hF.fad hlt (hF.bfad rfl (hF.bld rfl ?_))))
        refine hlenS _ _ (in_sub (by omega) (by omega) ?_)
        rw [hj]
        refine wCall_pure (itoa_spec (by omega)) ?_
        rintro r rfl
        have hd := dig_len j
        refine st_add (by simp; omega) ?_
        refine hF.wr (wr_string hnm ([36] ++ dig j)) hs hnm hlt hm hl ro' rt' ?_
        intro v1 s1 hF1
        refine ⟨hF.nil hlt (by simp [eqA]), hF.fad hlt (by simp [eqA]), ?_⟩
        exact hF1.fin hs hnm hlt fun s' h => h
    have b5 : (k == 5) = false := by simpa using h5
    rw [b5]
    refine co_f (in_eql ?_)
    by_cases h6' : k = 6
    · subst h6'
      have h2 := hk6 rfl
      obtain ⟨b, body, rfl⟩ : ∃ b body, ts = [b, body] := by
        rcases ts with _ | ⟨x1, _ | ⟨x2, _ | ⟨x3, r⟩⟩⟩ <;> simp at h2
        exact ⟨_, _, rfl⟩
      simp only [depthL, sizeL] at hlen hsz
      rw [fmt_ex] at hl ⊢
      have hfl := fresh_len (used := N ++ sc)
      simp only [List.length_append, List.length_cons, List.length_nil] at hl
      refine co_t ?_
      refine fresh_call hF hlt hs hm hnm hsc (by omega) ?_
      generalize fresh (N ++ sc) = f at hfl hl ⊢
      refine hF.nil hlt (hF.fad hlt (st_add (by simp; omega) (st_add (by simp; omega) ?_)))
      refine hF.wr (wr_string hnm _) hs hnm hlt hm (by simp; omega) ro' rt' ?_
      intro v1 s1 hF1
      refine hF1.bfad rfl (hF1.bld rfl ?_)
      refine wIdx_rows ha (row := rowT b) (by omega) (by simp [rowsT]) (rowT_len b) (by omega) (ld_row (rowT_len b) ?_)
      refine hF1.wr (ih b (by simp) [] (.capped []) (.inl (by simp [strRows]; exact .capped _)) (fun _ => .capped _) (by simp; omega) (by omega) _ (TRep.of_row b)) hs hnm hlt hm (by simp; omega) ro' rt' ?_
      intro v2 s2 hF2
      refine hF2.nil hlt (hF2.fad hlt ?_)
      refine hF2.wr (wr_byte hnm 32) hs hnm hlt hm (by simp; omega) ro' rt' ?_
      intro v3 s3 hF3
      refine hF3.bfad rfl (hF3.bld rfl ?_)
      refine wIdx_rows ha (row := rowT body) (by omega) (by simp [rowsT]) (rowT_len body) (by omega) (ld_row (rowT_len body) ?_)
      refine wCall_do (cloneO_spec hsc hsc0 (by omega) (s := s3) (L := LFE (env R) 30 0 L.ro L.rt) (by rw [rt']; omega)) ?_
      rintro w s4 ⟨x1, rfl, hw⟩
      have hF4 := hF3.toks x1
      have hb1 : ∀ (s : Sto) (K : AV → Sto → Prop), K (.capped [[.sc (.string ⟨f.toArray⟩)]]) s → wBsl false s 1 [SS []] 1 [(0, 1, SS f)] K := by
        intro s K h
        simp [wBsl, repl, rowsBy]
        exact h
      refine hb1 _ _ ⟨by simp, ?_⟩
      have hsl : (strRows sc).length = sc.length := strRows_len sc
      refine wApp_row (bs := s3.bs) (ts := s3.ts) (x := x1) (row := [.sc (.string ⟨f.toArray⟩)]) hw (by rw [rt']; omega) strRows_row rfl (by omega) (by simp [okCell]) (by rw [hsl]; omega) (by rw [hsl]; omega) ?_
      intro w2 x2 hw2
      have e5 : strRows sc ++ [[.sc (.string ⟨f.toArray⟩)]] = strRows (sc ++ [f]) := by simp [strRows]
      rw [e5] at hw2
      have hF5 := hF3.toks x2
      refine hF5.wr (ih body (by simp) (sc ++ [f]) w2 hw2.rowsO (fun h => by simp at h) (by simp; omega) (by omega) _ (TRep.of_row body)) hs hnm hlt hm (by simp; omega) ro' rt' ?_
      intro v6 s6 hF6
      have q1 : eqA (.ptr bs.length 3) (.ptr bs.length 3) = true := by simp [eqA]
      have q2 := eqA_self (.inl ha)
      have q3 : eqA (.eptr (rowT body) 0) (.eptr (rowT body) 0) = true := by simp [eqA, eqPL_row]
      have q4 : eqA (.agg ((rowT body).map AV.pv)) (.agg ((rowT body).map AV.pv)) = true := by
        obtain ⟨k1, n1, i1, t1⟩ := body
        simp [rowT, eqA, eqAL, eqP, eqV_int, eqV_str, eqPLL_rows]
      have q5 : ∀ s : Sto, wIdx s 4 a (I64 1) fun v => eqA v (.eptr (rowT body) 0) = true := fun s => wIdx_rows ha (row := rowT body) (by omega) (by simp [rowsT]) (rowT_len body) (by omega) q3
      refine ⟨hF4.bfad rfl q1, hF5.bfad rfl q1, hF4.bld rfl q2, hF5.bld rfl q2, q5 _, q5 _, ld_row (rowT_len body) q4, ld_row (rowT_len body) q4, ?_⟩
      refine hF6.nil hlt (hF6.fad hlt ?_)
      refine hF6.wr (wr_byte hnm 41) hs hnm hlt hm (by simp; omega) ro' rt' ?_
      intro v7 s7 hF7
      refine hF7.fin hs hnm hlt fun s' h => ?_
      simpa using h
    have b6 : (k == 6) = false := by simpa using h6'
    rw [b6]
    refine co_f (in_eql ?_)
    have h2 : k = 2 := by omega
    subst h2
    refine co_t (hF.bfad rfl (hF.bld rfl ?_))
    have hlenA : ∀ (s : Sto) (K : AV → Prop), K (I64 ts.length) → wLen s a K := by
      intro s K h
      simp only [wLen, ha.lenA, wO, rowsT_len]
      exact h
    refine hlenA _ _ (in_eql ?_)
    by_cases hz : ts.length = 0
    · have b0 : ((ts.length : Int) == 0) = true := by rw [hz]; rfl
      have b1 : (ts.length == 0) = true := by rw [hz]; rfl
      rw [b0]
      have hw : fmt N (.mk 2 n i ts) sc = n := by
        rw [fmt_eq _ _ _ _ _ _ (by omega), b1]
        rfl
      refine co_t (hF.nil hlt (hF.fad hlt (hF.bfad rfl (hF.bld rfl ?_))))
      rw [hw] at hl ⊢
      refine hF.wr (wr_string hnm n) hs hnm hlt hm hl ro' rt' ?_
      intro v1 s1 hF1
      exact hF1.fin hs hnm hlt fun s' h => h
    · have b0 : ((ts.length : Int) == 0) = false := by rw [beq_eq_false_iff_ne]; omega
      have b1 : (ts.length == 0) = false := by simpa using hz
      rw [b0]
      refine co_f (p30_1 (hF.bfad rfl (hF.bld rfl (hF.bfad rfl (hF.bld rfl ?_)))))
      exact lst n (by rw [fmt_eq _ _ _ _ _ _ (by omega), b1]; rfl)
theorem fmts_spec {N : List (List UInt8)} {nm : AV} (hnm : RowsA nm (strRows N)) : ∀ (l : List Ty), validL l = true → smallVs l = true → ∀ t ∈ l, ∀ (sc : List (List UInt8)) (v : AV), RowsO v (strRows sc) → (sc = [] → RowsA v []) → N.length + sc.length + depth t < 260 → size t < 2 ^ 30 → FmtS R N nm t sc v
  | [], _, _, _, h => by cases h
  | e :: l, hv, hsm, t, h => by
    simp only [validL, Bool.and_eq_true] at hv
    simp only [smallVs, Bool.and_eq_true] at hsm
    rcases List.mem_cons.1 h with h' | h'
    · rw [h']
      exact fmt_spec hnm e hv.1 hsm.1
    · exact fmts_spec hnm l hv.2 hsm.2 t h'
end
end
end Go.Proofs.YtmipbilokjkjiaaGreatDoor
