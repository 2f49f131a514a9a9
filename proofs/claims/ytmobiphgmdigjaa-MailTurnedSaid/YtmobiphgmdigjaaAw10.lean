import Derived.Test.YtmobiphgmdigjaaAw9
import Derived.Laws.MakeOwn
import Derived.Great.FillDense
/- Soundness: append. -/
set_option linter.unusedVariables false
set_option linter.unusedSimpArgs false
namespace Go.AW
open Go

section
variable {P : Program} {X X' : Xs} {W : Nat → Prop} {pl : Pl} {w w' : World} {m : Mem}

/-- The rows of a slice that is read, as a list of cells in memory. -/
theorem flat_of_sl {a : Option Addr} {sz : Nat} {rows : List (List T)}
    (h : ∀ (i : Nat) (row : List T), rows[i]? = some row → row.length = sz ∧ ∃ b o, a = some ⟨b, o, none⟩ ∧
      ∀ (j : Nat) (t : T), row[j]? = some t → X b (o + i * sz + j) ∧ ∃ c, w.cell? ⟨b, o + i * sz + j, none⟩ = some c ∧ BRel X w t c ∧ c.oneCell' = true) :
    ∃ cs : List Value, cs.length = rows.length * sz ∧ RowsIn X w cs.toArray sz rows ∧
      (rows = [] ∨ ∃ b o, a = some ⟨b, o, none⟩ ∧ ∀ (j : Nat) (v : Value), cs[j]? = some v → w.cell? ⟨b, o + j, none⟩ = some v) := by
  by_cases hr : rows = []
  · subst hr
    exact ⟨[], by simp, fun i row h => by simp at h, .inl rfl⟩
  · obtain ⟨r0, hr0⟩ : ∃ r0, rows[0]? = some r0 := by cases rows with | nil => exact absurd rfl hr | cons x r => exact ⟨x, rfl⟩
    obtain ⟨_, b, o, rfl, _⟩ := h 0 r0 hr0
    have key : ∀ k, k < rows.length * sz → ∃ v, w.cell? ⟨b, o + k, none⟩ = some v ∧ True := by
      intro k hk
      have hsz : 0 < sz := by
        rcases Nat.eq_zero_or_pos sz with h0 | h0
        · subst h0; simp at hk
        · exact h0
      have hq : k / sz < rows.length := by rw [Nat.div_lt_iff_lt_mul hsz]; exact hk
      obtain ⟨hl, b', o', e, hc⟩ := h (k / sz) rows[k / sz] (by simp [hq])
      injection e with e; injection e with e1 e2
      subst e1 e2
      have hm : k % sz < sz := Nat.mod_lt _ hsz
      obtain ⟨_, c, hc2, _⟩ := hc (k % sz) (rows[k / sz])[k % sz] (by simp [hl, hm])
      have hdm : k / sz * sz + k % sz = k := by rw [Nat.mul_comm]; exact Nat.div_add_mod k sz
      exact ⟨c, by rw [← hdm, ← Nat.add_assoc]; exact hc2, trivial⟩
    obtain ⟨cs, hcl, hc1, _⟩ := cells_list (w := w) (rows.length * sz) b o (fun _ _ => True) key
    refine ⟨cs, hcl, ?_, .inr ⟨b, o, rfl, hc1⟩⟩
    intro i row hrow
    obtain ⟨hl, b', o', e, hc⟩ := h i row hrow
    injection e with e; injection e with e1 e2
    subst e1 e2
    refine ⟨hl, fun j t ht => ?_⟩
    obtain ⟨_, c, hc2, hb, ho⟩ := hc j t ht
    have hi : i < rows.length := (List.getElem?_eq_some_iff.1 hrow).1
    have hj : j < sz := by rw [← hl]; exact (List.getElem?_eq_some_iff.1 ht).1
    have hlt : i * sz + j < cs.length := by
      have : i * sz + sz ≤ rows.length * sz := by rw [← Nat.succ_mul]; exact Nat.mul_le_mul_right _ hi
      omega
    have hv := hc1 (i * sz + j) cs[i * sz + j] (by simp [hlt])
    rw [← Nat.add_assoc, hc2] at hv
    refine ⟨c, ?_, hb, ho⟩
    simp [hlt, Option.some.inj hv]

theorem rows_one {cs : List Value} {sz : Nat} {rows : List (List T)} (hl : cs.length = rows.length * sz) (h : RowsIn X w cs.toArray sz rows) : ∀ u ∈ cs, u.oneCell' = true := by
  intro u hu
  obtain ⟨k, hk, rfl⟩ := List.getElem_of_mem hu
  have hsz : 0 < sz := by
    rcases Nat.eq_zero_or_pos sz with h0 | h0
    · subst h0; rw [Nat.mul_zero] at hl; omega
    · exact h0
  have hq : k / sz < rows.length := by rw [Nat.div_lt_iff_lt_mul hsz]; omega
  have hm : k % sz < sz := Nat.mod_lt _ hsz
  obtain ⟨hrl, hc⟩ := h (k / sz) rows[k / sz] (by simp [hq])
  obtain ⟨v, hv, _, ho⟩ := hc (k % sz) (rows[k / sz])[k % sz] (by simp [hrl, hm])
  have hdm : k / sz * sz + k % sz = k := by rw [Nat.mul_comm]; exact Nat.div_add_mod k sz
  rw [hdm] at hv
  simp [hk] at hv
  rw [hv]; exact ho

/-- What is appended. -/
structure MoreC (P : Program) (X : Xs) (w : World) (tx : TypeId) (size : Nat) (vx : Value) (more : List (List T)) (cs : List Value) : Prop where
  len : cs.length = more.length * size
  rows : RowsIn X w cs.toArray size more
  many : ∀ w1, (Builtin.lenOf vx).run P w1 = .ok more.length w1
  first : ∀ w1 : World, w1.heap = w.heap → (Builtin.firstCells size more.length vx).run P w1 = .ok cs.toArray w1
  notInt : P.underlying tx = some .string ∨ ∃ e, P.underlying tx = some (.slice e)

theorem bytesR_rows {l : List UInt8} : RowsIn X w (l.map fun b => Value.int .u8 b.toNat).toArray 1 (bytesR l) := by
  intro i row h
  simp only [bytesR, List.getElem?_map] at h
  cases e : l[i]? with
  | none => simp [e] at h
  | some b =>
    simp [e] at h
    subst h
    refine ⟨rfl, fun j t ht => ?_⟩
    cases j with
    | zero =>
      simp at ht; subst ht
      exact ⟨.int .u8 b.toNat, by simp [e], .lit _, rfl⟩
    | succ j => simp at ht

theorem moreA_ok {e : TypeId} {i : TypeInfo} {tx : TypeId} {x : T} {vx : Value} (hx : VRel X pl w x vx) {K : List (List T) → Prop} (h : moreA P m e i tx x K) :
    ∃ more cs, MoreC P X w tx i.size vx more cs ∧ K more := by
  unfold moreA at h
  split at h
  · rename_i ee hu
    split at h
    · obtain ⟨hs, h2⟩ := chk_elim h
      obtain rfl := Nat.eq_of_beq_eq_true hs
      rename_i tok rows
      obtain ⟨a, cap, rfl, hcap, hrows, _⟩ := sl_inv hx
      obtain ⟨cs, hcl, hri, hmem⟩ := flat_of_sl hrows
      refine ⟨rows, cs, ⟨hcl, hri, fun w1 => by simp [Builtin.lenOf], ?_, .inr ⟨_, hu⟩⟩, h2⟩
      intro w1 hw1
      rcases hmem with rfl | ⟨b, o, rfl, hmem⟩
      · have : cs = [] := by simpa using hcl
        subst this
        cases a with
        | none => simp [Builtin.firstCells]
        | some a => simp [Builtin.firstCells, loadCells, loadCellsFrom]
      · simp only [Builtin.firstCells]
        rw [← hcl]
        refine run_loadCells_list w1 ⟨b, o, none⟩ cs fun j v hj => ?_
        rw [Addr.add_lit]
        have := hmem j v hj
        simpa [World.cell?, hw1] using this
    · split at h <;> try (exact h.elim)
      rename_i hn
      obtain rfl := isNilSl_eq hn
      obtain rfl := hx.lit_inv
      exact ⟨[], [], ⟨by simp, fun i row h => by simp at h, fun w1 => by simp [Builtin.lenOf], fun w1 _ => by simp [Builtin.firstCells], .inr ⟨_, hu⟩⟩, h⟩
    · exact h.elim
  · rename_i hu
    split at h <;> try (exact h.elim)
    rename_i s
    obtain ⟨hs, h2⟩ := chk_elim h
    have hs' : i.size = 1 := (Nat.eq_of_beq_eq_true hs).symm
    obtain rfl := hx.lit_inv
    refine ⟨_, s.data.toList.map fun b => Value.int .u8 b.toNat, ⟨by simp [bytesR, hs'], by rw [hs']; exact bytesR_rows, fun w1 => ?_, fun w1 _ => ?_, .inl hu⟩, h2⟩
    · simp [Builtin.lenOf, bytesR]
    · simp only [Builtin.firstCells, Sem.run_pure, bytesR, List.length_map, Array.length_toList]
      congr 1
      have : s.extract 0 s.data.size = s := by
        have h3 : s.data.size = s.size := rfl
        rw [h3, ByteArray.extract_zero_size]
      rw [this]
      apply Array.ext'
      simp
  · exact h.elim

/-- Rows to append, or zero rows by number. -/
structure More (P : Program) (X : Xs) (w : World) (tx : TypeId) (i : TypeInfo) (vx : Value) (more : List (List T)) (cs : List Value) : Prop where
  len : cs.length = more.length * i.size
  rows : RowsIn X w cs.toArray i.size more
  run : ((∀ w1, (Builtin.lenOf vx).run P w1 = .ok more.length w1) ∧ (∀ w1 : World, w1.heap = w.heap → (Builtin.firstCells i.size more.length vx).run P w1 = .ok cs.toArray w1) ∧
      (P.underlying tx = some .string ∨ ∃ e, P.underlying tx = some (.slice e))) ∨
    (∃ (k kk : IntKind) (z : Value), P.underlying tx = some (.int k) ∧ vx = .int kk more.length ∧ more.length ≤ 9223372036854775807 ∧ (more.length : Int) * i.bytes ≤ 281474976710656 ∧ i.zero = some z ∧ cs.toArray = Builtin.zeroCells z.cells more.length)
theorem MoreC.more {tx : TypeId} {i : TypeInfo} {vx : Value} {more : List (List T)} {cs : List Value} (h : MoreC P X w tx i.size vx more cs) : More P X w tx i vx more cs :=
  ⟨h.len, h.rows, .inl ⟨h.many, h.first, h.notInt⟩⟩

theorem madeCells_rows {z : Value} {sz n c : Nat} (hz : z.cells.size = sz) (hpos : 0 < sz) (hall : z.cells.toList.all Value.oneCell' = true) (hn : n ≤ c) :
    RowsIn X w (madeCells z.cells (c * sz)) sz (List.replicate n (z.cells.toList.map .lit)) := by
  intro i row h
  have hi : i < n := by simpa using (List.getElem?_eq_some_iff.1 h).1
  simp [hi] at h
  subst h
  refine ⟨by simp [hz], fun j t ht => ?_⟩
  obtain ⟨u, hu, rfl⟩ := getElem?_lit_cells z j t (by simpa using ht)
  have hj : j < sz := by rw [← hz]; exact (Array.getElem?_eq_some_iff.1 hu).1
  refine ⟨u, ?_, .lit u, ?_⟩
  · have hlt : i * sz + j < c * sz := by
      have : i * sz + sz ≤ c * sz := by rw [← Nat.succ_mul]; exact Nat.mul_le_mul_right _ (by omega)
      omega
    have hmod : (i * sz + j) % z.cells.size = j := by rw [hz, Nat.mul_comm, Nat.mul_add_mod, Nat.mod_eq_of_lt hj]
    simp only [madeCells, Array.getElem?_map, Array.getElem?_range, hlt, if_true, Option.map_some, hmod]
    rw [getElem!_def, hu]
  · have hm : u ∈ z.cells.toList := by
      obtain ⟨h1, h2⟩ := Array.getElem?_eq_some_iff.1 hu
      rw [← h2]; simp
    exact List.all_eq_true.1 hall u hm

theorem moreZ_ok {e : TypeId} {i : TypeInfo} {z : Value} {tx : TypeId} {x : T} {vx : Value} (hz : i.zero = some z) (hzs : z.cells.size = i.size) (hpos : 0 < i.size) (hx : VRel X pl w x vx) {K : List (List T) → Prop} (h : moreZ P m e i z tx x K) :
    ∃ more cs, More P X w tx i vx more cs ∧ K more := by
  unfold moreZ at h
  split at h
  · rename_i k hu
    split at h <;> try (exact h.elim)
    rename_i kk n
    obtain ⟨hall, ⟨h0, h63, h48⟩, hK⟩ := chk_elim h
    obtain rfl := hx.lit_inv
    have hn : ((n.toNat : Nat) : Int) = n := Int.toNat_of_nonneg h0
    refine ⟨_, (madeCells z.cells (n.toNat * i.size)).toList, ⟨by simp [size_madeCells], ?_, .inr ⟨k, kk, z, hu, ?_, ?_, ?_, hz, ?_⟩⟩, hK⟩
    · have := madeCells_rows (X := X) (w := w) hzs hpos hall (Nat.le_refl n.toNat)
      simpa using this
    · rw [List.length_replicate, hn]
    · rw [List.length_replicate]; omega
    · rw [List.length_replicate, hn]; exact h48
    · rw [List.length_replicate]
      rw [Array.toArray_toList, madeCells, Builtin.zeroCells, hzs]
  · obtain ⟨more, cs, hM, hK⟩ := moreA_ok hx h
    exact ⟨more, cs, hM.more, hK⟩

theorem wrapI64_of_le {n : Nat} (h : n ≤ 9223372036854775807) : IntKind.i64.wrap (n : Int) = n := by
  have e1 : (2 : Int) ^ IntKind.i64.bits = 18446744073709551616 := by decide
  have e2 : (2 : Int) ^ (IntKind.i64.bits - 1) = 9223372036854775808 := by decide
  simp only [IntKind.wrap, e1, e2, show IntKind.i64.signed = true from rfl, Bool.true_and, decide_eq_true_eq]
  split <;> rename_i h0 <;> omega
section run
variable {ts tx e : TypeId} {i : TypeInfo} {z : Value}

theorem run_app_grow (ty : TypeId) (hu : P.underlying ts = some (.slice e)) (hi : P.info? e = some i) (hz : i.zero = some z) {vx : Value} {more : List (List T)} {news : List Value}
    (hm : More P X w tx i vx more news) (base : Option Addr) (sLen sCap : Nat) (olds : Array Value)
    (hold : (Builtin.firstCells i.size sLen (.slice base sLen sCap)).run P w.drew = .ok olds w.drew)
    (hg : sCap < sLen + more.length) (h63 : sLen + more.length ≤ 9223372036854775807) (hb : (sLen + more.length) * i.bytes ≤ 140737488355328) :
    (Builtin.append_ #[ts, tx] ty #[.slice base sLen sCap, vx]).run P w =
      .ok (.slice (some ⟨w.heap.size, 0, none⟩) (sLen + more.length) (grownCap w (sLen + more.length) sCap e))
        (w.drew.alloc (.cells (olds ++ news.toArray ++ Builtin.zeroCells z.cells (grownCap w (sLen + more.length) sCap e - (sLen + more.length))) e)) := by
  have hn : ¬ (sLen + more.length ≤ sCap) := by omega
  have h63' : ¬ (9223372036854775807 < ((sLen : Int) + (more.length : Int))) := by omega
  have hfit := growslice_fits hg hb
  have h48' : ¬ (281474976710656 < Builtin.nextslicecap (sLen + more.length) sCap * i.bytes) := by omega
  rcases hm.run with ⟨many, first, hd | ⟨ee2, hd⟩⟩ | ⟨k, kk, z', hd, rfl, hl, hb2, hz', hc⟩
  · simp [Builtin.append_, run_underlying hu, run_underlying hd, sizeOf, typeInfo, zeroValue, hi, hz, many, hn, h63', h48', Question.forced, hold, first w.drew rfl, newRow, grownCap]
  · simp [Builtin.append_, run_underlying hu, run_underlying hd, sizeOf, typeInfo, zeroValue, hi, hz, many, hn, h63', h48', Question.forced, hold, first w.drew rfl, newRow, grownCap]
  · obtain rfl := Option.some.inj (hz.symm.trans hz')
    have hw : IntKind.i64.wrap (more.length : Int) = more.length := wrapI64_of_le hl
    have hneg : ¬ ((more.length : Int) < 0) := by omega
    have hbig : ¬ (281474976710656 < (more.length : Int) * i.bytes) := by omega
    by_cases hz0 : more.length * i.size = 0
    · obtain rfl : news = [] := List.length_eq_zero_iff.1 (by rw [hm.len, hz0])
      simp [-List.length_eq_zero_iff, Builtin.append_, run_underlying hu, run_underlying hd, sizeOf, typeInfo, zeroValue, asInt, asIntOf, hi, hz, hw, hneg, hbig, hn, h63', h48', Question.forced, hold, newRow, grownCap, hz0]
    · simp [-List.length_eq_zero_iff, Builtin.append_, run_underlying hu, run_underlying hd, sizeOf, typeInfo, zeroValue, asInt, asIntOf, hi, hz, hw, hneg, hbig, hn, h63', h48', Question.forced, hold, newRow, grownCap, hz0, ← hc]

theorem run_app_room (ty : TypeId) (hu : P.underlying ts = some (.slice e)) (hi : P.info? e = some i) {vx : Value} {more : List (List T)} {news : List Value}
    (hm : More P X w tx i vx more news) (b sLen sCap : Nat) (cs : Array Value) (ee : TypeId) (fr : Nat × Nat) (hh : w.heap[b]? = some (.cells cs ee fr)) (huf : unfrozen w b cs.size)
    (hroom : sLen + more.length ≤ sCap) (hfit : sLen * i.size + news.length ≤ cs.size) (h1 : ∀ u ∈ news, u.oneCell' = true) :
    (Builtin.append_ #[ts, tx] ty #[.slice (some ⟨b, 0, none⟩) sLen sCap, vx]).run P w =
      .ok (.slice (some ⟨b, 0, none⟩) (sLen + more.length) sCap) (w.setRow b (cs.toList.take (sLen * i.size) ++ news ++ cs.toList.drop (sLen * i.size + news.length)).toArray) := by
  have hst := run_storeCells_u (P := P) b (sLen * i.size) ee fr news 0 cs w hh huf (by simpa using hfit) h1
  simp only [Nat.add_zero] at hst
  rcases hm.run with ⟨many, first, hd | ⟨ee2, hd⟩⟩ | ⟨k, kk, z', hd, rfl, hl, hb2, hz', hc⟩
  · simp [Builtin.append_, run_underlying hu, run_underlying hd, sizeOf, typeInfo, hi, many, hroom, first w rfl, Addr.add_lit, hst]
  · simp [Builtin.append_, run_underlying hu, run_underlying hd, sizeOf, typeInfo, hi, many, hroom, first w rfl, Addr.add_lit, hst]
  · have hw : IntKind.i64.wrap (more.length : Int) = more.length := wrapI64_of_le hl
    have hneg : ¬ ((more.length : Int) < 0) := by omega
    have hbig : ¬ (281474976710656 < (more.length : Int) * i.bytes) := by omega
    by_cases hz0 : more.length * i.size = 0
    · obtain rfl : news = [] := List.length_eq_zero_iff.1 (by rw [hm.len, hz0])
      simp [-List.length_eq_zero_iff, Builtin.append_, run_underlying hu, run_underlying hd, sizeOf, typeInfo, zeroValue, asInt, asIntOf, hi, hz', hw, hneg, hbig, hroom, Addr.add_lit, hst, hz0]
    · simp [-List.length_eq_zero_iff, Builtin.append_, run_underlying hu, run_underlying hd, sizeOf, typeInfo, zeroValue, asInt, asIntOf, hi, hz', hw, hneg, hbig, hroom, Addr.add_lit, hst, hz0, ← hc]

theorem run_app_nil (ty : TypeId) (hu : P.underlying ts = some (.slice e)) (hi : P.info? e = some i) {vx : Value} {more : List (List T)} {news : List Value}
    (hm : More P X w tx i vx more news) (h0 : more = []) :
    (Builtin.append_ #[ts, tx] ty #[.slice none 0 0, vx]).run P w = .ok (.slice none 0 0) w := by
  subst h0
  rcases hm.run with ⟨many, first, hd⟩ | ⟨k, kk, z', hd, rfl, hl, hb2, hz', hc⟩
  · have hf := first w rfl
    simp only [List.length_nil] at hf
    rcases hd with hd | ⟨ee2, hd⟩ <;> simp [Builtin.append_, run_underlying hu, run_underlying hd, sizeOf, typeInfo, hi, many, hf]
  · have hw : IntKind.i64.wrap 0 = 0 := rfl
    simp [Builtin.append_, run_underlying hu, run_underlying hd, sizeOf, typeInfo, zeroValue, asInt, asIntOf, hi, hz', hw]
end run

end
end Go.AW

/- Soundness: owned slices that grow. -/
set_option linter.unusedVariables false
set_option linter.unusedSimpArgs false
namespace Go.AW
open Go

section
variable {P : Program} {X X' : Xs} {W : Nat → Prop} {pl : Pl} {w w' : World} {m : Mem}

theorem StepOk.ownN (hm : MRel X W pl w m) {id : Nat} (hid : pl id = none) (hW : ∀ b, w.heap.size ≤ b → W b) (cs : Array Value) (e : TypeId) (hnb : NewBlock w w' cs e) (sz : Nat) (rows : List (List T))
    (hl : rows.length * sz ≤ cs.size) (hr : ∀ (i : Nat) (row : List T), rows[i]? = some row → row.length = sz ∧ ∀ (j : Nat) (t : T), row[j]? = some t → ∃ v, cs[i * sz + j]? = some v ∧ VRel X pl w t v)
    {t : T} {v : Value} (hv : VRel X (upd pl id (.own w.heap.size sz)) w' t v) :
    StepOk X W pl w (some id) (m.put id (.own sz rows)) t v w' := by
  obtain ⟨fr, hnew⟩ := hnb.new
  have hx : XMono X X w w' := fun b off h => ⟨h, World.cell?_of_block (hnb.old b (hm.xin b off h).1)⟩
  have hp : PMono pl (upd pl id (.own w.heap.size sz)) w w' := by
    intro i li hi
    have hne : i ≠ id := fun e => by rw [e, hid] at hi; cases hi
    refine ⟨⟨li, by rw [upd_other pl _ hne]; exact hi, li.le_refl⟩, ?_⟩
    rintro b sz2 rfl _ n hn
    exact roomy_of_heap (hnb.old b (hm.placed i _ b hi rfl).2) hn
  have hother : ∀ i li, i ≠ id → pl i = some li → ∀ b', li.blk = some b' → b' < w.heap.size := fun i li _ hi b' hb' => (hm.placed i li b' hi hb').2
  refine ⟨X, upd pl id (.own w.heap.size sz), hx, hp, fun i hi hn => by rw [upd_other _ _ (fun e => hi (by rw [e]))]; exact hn, hnb.ext W, ?_, hv, fun _ _ h => .inl h⟩
  refine hm.update hx hp (fun i li b hi hl hb => hnb.old b (hm.placed i li b hl hb).2) (by rw [hnb.size]; omega) ?_ ?_ ?_
  · refine .inr ⟨w.heap.size, rfl, cs, e, fr, hnew, hnb.unf, hl, fun i row hrow => ⟨(hr i row hrow).1, fun j t ht => ?_⟩⟩
    obtain ⟨v, hv, hvr⟩ := (hr i row hrow).2 j t ht
    exact ⟨v, hv, hvr.mono hx hp⟩
  · intro b hb
    simp only [Loc.blk, Option.some.injEq] at hb
    subst hb
    refine ⟨hW _ (Nat.le_refl _), by rw [hnb.size]; omega, fun i li hi hli hb => ?_⟩
    have := hother i li hi hli _ hb
    omega
  · intro b off h
    obtain ⟨h1, h2⟩ := hm.xin b off h
    refine ⟨by rw [hnb.size]; omega, ?_, fun i li _ hi => h2 i li hi⟩
    simp only [Loc.free]; omega

theorem rowsIn_vrel {cs : Array Value} {sz : Nat} {rows : List (List T)} (h : RowsIn X w cs sz rows) (hu : ∀ (i : Nat) (row : List T) (j : Nat) (t : T), rows[i]? = some row → row[j]? = some t → untok t = t) :
    ∀ (i : Nat) (row : List T), rows[i]? = some row → row.length = sz ∧ ∀ (j : Nat) (t : T), row[j]? = some t → ∃ v, cs[i * sz + j]? = some v ∧ VRel X pl w t v :=
  fun i row hr => ⟨(h i row hr).1, fun j t ht => by
    obtain ⟨v, hv, hb, _⟩ := (h i row hr).2 j t ht
    refine ⟨v, hv, ?_⟩
    have := hb.vrel (pl := pl)
    rwa [hu i row j t hr ht] at this⟩


/-- An id is let go. -/
theorem MRel.retire (hm : MRel X W pl w m) {j : Nat} {l : Loc} (hl : pl j = some l) (hle : l.le .gone) : MRel X W (upd pl j .gone) w (m.del j) ∧ PMono pl (upd pl j .gone) w w := by
  have hp : PMono pl (upd pl j .gone) w w := by
    intro i li hi
    refine ⟨?_, fun _ _ _ _ _ h => h⟩
    by_cases e : i = j
    · subst e
      rw [hl] at hi
      obtain rfl := Option.some.inj hi
      exact ⟨_, upd_same _ _ _, hle⟩
    · exact ⟨li, by rw [upd_other _ _ e]; exact hi, li.le_refl⟩
  refine ⟨⟨?_, ?_, ?_, ?_, hm.glob⟩, hp⟩
  · intro i b hi
    by_cases e : i = j
    · subst e; rw [Mem.get_del_same] at hi; cases hi
    · rw [Mem.get_del_other _ _ _ (Ne.symm e)] at hi
      obtain ⟨li, hli, hbi⟩ := hm.blk i b hi
      exact ⟨li, by rw [upd_other _ _ e]; exact hli, hbi.mono (.refl _ _) hp fun _ _ => rfl⟩
  · intro i li b hi hb
    by_cases e : i = j
    · subst e; rw [upd_same] at hi; cases hi; cases hb
    · rw [upd_other _ _ e] at hi; exact hm.placed i li b hi hb
  · intro i k li lk b hi hk hbi hbk
    by_cases e : i = j
    · subst e; rw [upd_same] at hi; cases hi; cases hbi
    · by_cases e2 : k = j
      · subst e2; rw [upd_same] at hk; cases hk; cases hbk
      · rw [upd_other _ _ e] at hi; rw [upd_other _ _ e2] at hk
        exact hm.apart i k li lk b hi hk hbi hbk
  · intro b off hx
    obtain ⟨h1, h2⟩ := hm.xin b off hx
    refine ⟨h1, fun i li hi => ?_⟩
    by_cases e : i = j
    · subst e; rw [upd_same] at hi; cases hi; trivial
    · rw [upd_other _ _ e] at hi; exact h2 i li hi

theorem StepOk.behind {pl1 : Pl} (hp : PMono pl pl1 w w) (hn : ∀ i, pl i = none → pl1 i = none) {id : Option Nat} {m' : Mem} {t : T} {v : Value} (h : StepOk X W pl1 w id m' t v w') : StepOk X W pl w id m' t v w' := by
  obtain ⟨X', pl', hx, hp', hn', he, hm, hv, hX⟩ := h
  exact ⟨X', pl', hx, hp.trans hp', fun i hi h => hn' i hi (hn i h), he, hm, hv, hX⟩

/-- A block that nobody bears becomes an id's own. -/
theorem StepOk.adopt (hm : MRel X W pl w m) {id b sz : Nat} (hid : pl id = none) (hb : W b ∧ b < w.heap.size) (hno : ∀ i li, pl i = some li → li.blk ≠ some b) (hX : ∀ off, ¬ X b off)
    {cs : Array Value} {e : TypeId} {fr : Nat × Nat} (hh : w'.heap[b]? = some (.cells cs e fr)) (hu : unfrozen w' b cs.size) (hsame : ∀ b', b' ≠ b → w'.heap[b']? = w.heap[b']?)
    (hsz : w'.heap.size = w.heap.size) (hos : w'.os = w.os) (hout : w'.output = w.output) (htape : w'.tape = w.tape) {rows : List (List T)} (hl : rows.length * sz ≤ cs.size)
    (hr : ∀ (i : Nat) (row : List T), rows[i]? = some row → row.length = sz ∧ ∀ (j : Nat) (t : T), row[j]? = some t → ∃ v, cs[i * sz + j]? = some v ∧ VRel X pl w t v)
    {t : T} {v : Value} (hv : VRel X (upd pl id (.own b sz)) w' t v) : StepOk X W pl w (some id) (m.put id (.own sz rows)) t v w' := by
  have hx : XMono X X w w' := fun b' off h => ⟨h, World.cell?_of_block (hsame b' fun e => by subst e; exact hX off h)⟩
  have hp : PMono pl (upd pl id (.own b sz)) w w' := by
    intro i li hi
    have hne : i ≠ id := fun e => by rw [e, hid] at hi; cases hi
    refine ⟨⟨li, by rw [upd_other pl _ hne]; exact hi, li.le_refl⟩, ?_⟩
    rintro b2 sz2 rfl _ n hn
    exact roomy_of_heap (hsame b2 fun e => by subst e; exact hno i _ hi rfl) hn
  refine ⟨X, upd pl id (.own b sz), hx, hp, fun i hi hn => by rw [upd_other _ _ (fun e => hi (by rw [e]))]; exact hn, ⟨by omega, hos, hout, htape, fun b' _ hW => hsame b' fun e => hW (by subst e; exact hb.1)⟩, ?_, hv, fun _ _ h => .inl h⟩
  refine hm.update hx hp (fun i li b' hi hl hb' => hsame b' fun e => by subst e; exact hno i li hl hb') (by omega) ?_ ?_ ?_
  · refine .inr ⟨b, rfl, cs, e, fr, hh, hu, hl, fun i row hrow => ⟨(hr i row hrow).1, fun j t ht => ?_⟩⟩
    obtain ⟨v, hv, hvr⟩ := (hr i row hrow).2 j t ht
    exact ⟨v, hv, hvr.mono hx hp⟩
  · intro b' hb'
    simp only [Loc.blk, Option.some.injEq] at hb'
    subst hb'
    exact ⟨hb.1, by omega, fun i li _ hi => hno i li hi⟩
  · intro b' off h
    obtain ⟨h1, h2⟩ := hm.xin b' off h
    refine ⟨by omega, ?_, fun i li _ hi => h2 i li hi⟩
    simp only [Loc.free]
    intro e
    subst e
    exact hX off h

/-- Nothing is owned, of an id's. -/
theorem StepOk.ownNil (hm : MRel X W pl w m) {id : Nat} (sz : Nat) (hid : pl id = none) : StepOk X W pl w (some id) (m.put id (.own sz [])) (.sref id 0 0) (.slice none 0 0) w := by
  have hp : PMono pl (upd pl id .ownn) w w := by
    intro i li hi
    have hne : i ≠ id := fun e => by rw [e, hid] at hi; cases hi
    exact ⟨⟨li, by rw [upd_other pl _ hne]; exact hi, li.le_refl⟩, fun _ _ _ _ _ h => h⟩
  refine ⟨X, upd pl id .ownn, .refl _ _, hp, fun i hi hn => by rw [upd_other _ _ (fun e => hi (by rw [e]))]; exact hn, .refl _ _, ?_, .srefn _ (.inl (upd_same _ _ _)), fun _ _ h => .inl h⟩
  refine hm.update (.refl _ _) hp (fun _ _ _ _ _ _ => rfl) (Nat.le_refl _) (.inl ⟨rfl, rfl⟩) (by simp [Loc.blk]) ?_
  intro b off h
  obtain ⟨h1, h2⟩ := hm.xin b off h
  exact ⟨h1, trivial, fun i li _ hi => h2 i li hi⟩

theorem bvN_untok {t : T} (h : bvN t = true) : untok t = t := by
  cases t with
  | sl tok sz rows => cases tok with | none => rfl | some _ => simp [bvN] at h
  | lit => rfl
  | ifc => rfl
  | _ => simp [bvN] at h

theorem rows_untok {rows : List (List T)} (h : ∀ row ∈ rows, ∀ c ∈ row, bvN c = true) : ∀ (i : Nat) (row : List T) (j : Nat) (t : T), rows[i]? = some row → row[j]? = some t → untok t = t :=
  fun i row j t hr ht => bvN_untok (h row (List.mem_of_getElem? hr) t (List.mem_of_getElem? ht))

theorem cells_append {sz : Nat} {r1 r2 : List (List T)} {c1 c2 c3 : List Value} (h1l : c1.length = r1.length * sz)
    (h1 : ∀ (i : Nat) (row : List T), r1[i]? = some row → row.length = sz ∧ ∀ (j : Nat) (t : T), row[j]? = some t → ∃ v, c1.toArray[i * sz + j]? = some v ∧ VRel X pl w t v)
    (h2l : c2.length = r2.length * sz)
    (h2 : ∀ (i : Nat) (row : List T), r2[i]? = some row → row.length = sz ∧ ∀ (j : Nat) (t : T), row[j]? = some t → ∃ v, c2.toArray[i * sz + j]? = some v ∧ VRel X pl w t v) :
    ∀ (i : Nat) (row : List T), (r1 ++ r2)[i]? = some row → row.length = sz ∧ ∀ (j : Nat) (t : T), row[j]? = some t → ∃ v, (c1 ++ c2 ++ c3).toArray[i * sz + j]? = some v ∧ VRel X pl w t v := by
  intro i row hrow
  by_cases hi : i < r1.length
  · rw [List.getElem?_append_left hi] at hrow
    obtain ⟨hl, hc⟩ := h1 i row hrow
    refine ⟨hl, fun j t ht => ?_⟩
    obtain ⟨v, hv, hr⟩ := hc j t ht
    refine ⟨v, ?_, hr⟩
    have hlt : i * sz + j < c1.length := by
      have := (Array.getElem?_eq_some_iff.1 hv).1
      simpa using this
    rw [List.getElem?_toArray] at hv ⊢
    rw [List.append_assoc, List.getElem?_append_left hlt]; exact hv
  · rw [List.getElem?_append_right (by omega)] at hrow
    obtain ⟨hl, hc⟩ := h2 _ row hrow
    refine ⟨hl, fun j t ht => ?_⟩
    obtain ⟨v, hv, hr⟩ := hc j t ht
    refine ⟨v, ?_, hr⟩
    have hlt : (i - r1.length) * sz + j < c2.length := by
      have := (Array.getElem?_eq_some_iff.1 hv).1
      simpa using this
    have e : i * sz + j = c1.length + ((i - r1.length) * sz + j) := by
      rw [h1l, ← Nat.add_assoc, ← Nat.add_mul]
      congr 2
      omega
    rw [List.getElem?_toArray] at hv ⊢
    rw [e, List.append_assoc, List.getElem?_append_right (by omega), Nat.add_sub_cancel_left, List.getElem?_append_left hlt]
    exact hv

section app
variable {ts tx e : TypeId} {i : TypeInfo} {z : Value}

theorem VRel.drew {t : T} {v : Value} (h : VRel X pl w t v) : VRel X pl w.drew t v :=
  VRel.mono (w := w) (w' := w.drew) (X := X) (X' := X) (pl := pl) (pl' := pl) (fun b off hb => ⟨hb, rfl⟩) (fun _ l hl => ⟨⟨l, hl, l.le_refl⟩, fun _ _ _ _ _ hr => hr⟩) h

theorem run_app_nil2 (ty : TypeId) (hu : P.underlying ts = some (.slice e)) (hi : P.info? e = some i) {vx : Value} {news : List Value}
    (hm : More P X w tx i vx [] news) (a : Option Addr) :
    (Builtin.append_ #[ts, tx] ty #[.slice a 0 0, vx]).run P w = .ok (.slice a 0 0) w := by
  have hn : news = [] := by have := hm.len; simpa using this
  subst hn
  rcases hm.run with ⟨many, first, hd⟩ | ⟨k, kk, z', hd, rfl, hl, hb2, hz', hc⟩
  · have hf := first w rfl
    simp only [List.length_nil] at hf
    cases a <;> rcases hd with hd | ⟨ee2, hd⟩ <;> simp [Builtin.append_, run_underlying hu, run_underlying hd, sizeOf, typeInfo, hi, many, hf, storeCells]
  · have hw : IntKind.i64.wrap 0 = 0 := rfl
    cases a <;> simp [Builtin.append_, run_underlying hu, run_underlying hd, sizeOf, typeInfo, zeroValue, asInt, asIntOf, hi, hz', hw, storeCells]

theorem own_grow (hm : MRel X W pl w m) {id : Nat} (hid : pl id = none) (hW : ∀ b, w.heap.size ≤ b → W b) (ty : TypeId) (hu : P.underlying ts = some (.slice e)) (hi : P.info? e = some i) (hz : i.zero = some z) (hzs : z.cells.size = i.size) {vx : Value} {more : List (List T)} {news : List Value}
    (hM : More P X w tx i vx more news) (hbv : ∀ row ∈ more, ∀ c ∈ row, bvN c = true) (base : Option Addr) (sCap : Nat) (rows : List (List T)) (olds : List Value) (hol : olds.length = rows.length * i.size)
    (hor : ∀ (k : Nat) (row : List T), rows[k]? = some row → row.length = i.size ∧ ∀ (j : Nat) (t : T), row[j]? = some t → ∃ v, olds.toArray[k * i.size + j]? = some v ∧ VRel X pl w t v)
    (hfirst : (Builtin.firstCells i.size rows.length (.slice base rows.length sCap)).run P w.drew = .ok olds.toArray w.drew) (hg : sCap < rows.length + more.length)
    (h63 : rows.length + more.length ≤ 9223372036854775807) (hb : (rows.length + more.length) * i.bytes ≤ 140737488355328) :
    ∃ v w', (Builtin.append_ #[ts, tx] ty #[.slice base rows.length sCap, vx]).run P w = .ok v w' ∧ StepOk X W pl w (some id) (m.put id (.own i.size (rows ++ more))) (.sref id 0 (rows.length + more.length)) v w' := by
  refine ⟨_, _, run_app_grow ty hu hi hz hM base rows.length sCap olds.toArray hfirst hg h63 hb, .drew ?_⟩
  have hge := grownCap_ge w (rows.length + more.length) sCap e
  have hcs : (olds ++ news ++ (Builtin.zeroCells z.cells (grownCap w (rows.length + more.length) sCap e - (rows.length + more.length))).toList).toArray =
      olds.toArray ++ news.toArray ++ Builtin.zeroCells z.cells (grownCap w (rows.length + more.length) sCap e - (rows.length + more.length)) := by
    apply Array.ext'; simp
  rw [← hcs]
  have hsize : (olds ++ news ++ (Builtin.zeroCells z.cells (grownCap w (rows.length + more.length) sCap e - (rows.length + more.length))).toList).toArray.size = grownCap w (rows.length + more.length) sCap e * i.size := by
    simp only [List.size_toArray, List.length_append, Array.length_toList, size_zeroCells, hol, hM.len, hzs, ← Nat.add_mul]
    congr 1; omega
  refine StepOk.ownN (hm.drew) hid hW _ e (.alloc w.drew _ e) i.size (rows ++ more) ?_ ?_ ?_
  · rw [hsize, List.length_append]; exact Nat.mul_le_mul_right _ hge
  · exact cells_append hol (fun k row hrow => ⟨(hor k row hrow).1, fun j t ht => by
      obtain ⟨v, hv, hr⟩ := (hor k row hrow).2 j t ht
      exact ⟨v, hv, hr.drew⟩⟩) hM.len (fun k row hrow => ⟨(rowsIn_vrel (pl := pl) hM.rows (rows_untok hbv) k row hrow).1, fun j t ht => by
      obtain ⟨v, hv, hr⟩ := (rowsIn_vrel (pl := pl) hM.rows (rows_untok hbv) k row hrow).2 j t ht
      exact ⟨v, hv, hr.drew⟩⟩)
  · have := VRel.sref (X := X) (pl := upd pl id (.own w.drew.heap.size i.size)) (w := w.drew.alloc (.cells (olds ++ news ++ (Builtin.zeroCells z.cells (grownCap w (rows.length + more.length) sCap e - (rows.length + more.length))).toList).toArray e)) id 0 (rows.length + more.length) w.drew.heap.size i.size
      (grownCap w (rows.length + more.length) sCap e) (.inl (upd_same _ _ _)) hge (fun _ => ⟨_, _, _, heap_alloc_new w.drew _, by rw [hsize, Nat.zero_add]; exact Nat.le_refl _⟩)
    simpa using this

theorem own_room (hm : MRel X W pl w m) {id : Nat} (hid : pl id = none) (ty : TypeId) (hu : P.underlying ts = some (.slice e)) (hi : P.info? e = some i) {vx : Value} {more : List (List T)} {news : List Value}
    (hM : More P X w tx i vx more news) (hbv : ∀ row ∈ more, ∀ c ∈ row, bvN c = true) {b sCap : Nat} (hb : W b ∧ b < w.heap.size) (hno : ∀ k li, pl k = some li → li.blk ≠ some b) (hX : ∀ off, ¬ X b off)
    {cs : Array Value} {ee : TypeId} {fr : Nat × Nat} (hh : w.heap[b]? = some (.cells cs ee fr)) (huf : unfrozen w b cs.size) (hcap : sCap * i.size ≤ cs.size) (rows : List (List T))
    (hor : ∀ (k : Nat) (row : List T), rows[k]? = some row → row.length = i.size ∧ ∀ (j : Nat) (t : T), row[j]? = some t → ∃ v, cs[k * i.size + j]? = some v ∧ VRel X pl w t v)
    (hroom : rows.length + more.length ≤ sCap) :
    ∃ v w', (Builtin.append_ #[ts, tx] ty #[.slice (some ⟨b, 0, none⟩) rows.length sCap, vx]).run P w = .ok v w' ∧ StepOk X W pl w (some id) (m.put id (.own i.size (rows ++ more))) (.sref id 0 (rows.length + more.length)) v w' := by
  have hmul : (rows.length + more.length) * i.size ≤ sCap * i.size := Nat.mul_le_mul_right _ hroom
  have hfit : rows.length * i.size + news.length ≤ cs.size := by rw [hM.len, ← Nat.add_mul]; omega
  have hol : (cs.toList.take (rows.length * i.size)).length = rows.length * i.size := by simp; omega
  refine ⟨_, _, run_app_room ty hu hi hM b rows.length sCap cs ee fr hh huf hroom hfit (rows_one hM.len hM.rows), ?_⟩
  have hs : (cs.toList.take (rows.length * i.size) ++ news ++ cs.toList.drop (rows.length * i.size + news.length)).toArray.size = cs.size := by simp; omega
  have hh' := setRow_heap w b cs (cs.toList.take (rows.length * i.size) ++ news ++ cs.toList.drop (rows.length * i.size + news.length)).toArray ee fr hh
  refine StepOk.adopt hm hid hb hno hX hh' (by rw [hs]; exact unfrozen_setRow hh huf) (fun b' h => setRow_other w b b' _ h) (by simp) rfl rfl rfl ?_ ?_ ?_
  · rw [hs, List.length_append]; omega
  · refine cells_append hol ?_ hM.len (rowsIn_vrel hM.rows (rows_untok hbv))
    intro k row hrow
    obtain ⟨hrl, hc⟩ := hor k row hrow
    refine ⟨hrl, fun j t ht => ?_⟩
    obtain ⟨v, hv, hr⟩ := hc j t ht
    refine ⟨v, ?_, hr⟩
    have hk : k < rows.length := (List.getElem?_eq_some_iff.1 hrow).1
    have hj : j < i.size := by rw [← hrl]; exact (List.getElem?_eq_some_iff.1 ht).1
    have : k * i.size + i.size ≤ rows.length * i.size := by rw [← Nat.succ_mul]; exact Nat.mul_le_mul_right _ hk
    rw [List.getElem?_toArray, List.getElem?_take, if_pos (by omega), Array.getElem?_toList]
    exact hv
  · have := VRel.sref (X := X) (pl := upd pl id (.own b i.size)) (w := w.setRow b (cs.toList.take (rows.length * i.size) ++ news ++ cs.toList.drop (rows.length * i.size + news.length)).toArray) id 0 (rows.length + more.length) b i.size sCap
      (.inl (upd_same _ _ _)) hroom (fun _ => ⟨_, _, _, hh', by rw [hs, Nat.zero_add]; exact hcap⟩)
    simpa using this

theorem appO_ok (hm : MRel X W pl w m) {id : Nat} (hid : pl id = none) (hW : ∀ b, w.heap.size ≤ b → W b) (ty : TypeId) (hu : P.underlying ts = some (.slice e)) (hi : P.info? e = some i) (hz : i.zero = some z) (hzs : z.cells.size = i.size) {vx : Value} {more : List (List T)} {news : List Value}
    (hM : More P X w tx i vx more news) {s : T} {vs : Value} (hs : VRel X pl w s vs) (K : T → Mem → Prop) (h : appO m id i s more K) : OpOk P X W pl w (some id) (Builtin.append_ #[ts, tx] ty #[vs, vx]) K := by
  obtain ⟨hbv, h⟩ := h
  have nilCase : ∀ {pl1 : Pl} {m1 : Mem}, MRel X W pl1 w m1 → pl1 id = none → PMono pl pl1 w w → (∀ k, pl k = none → pl1 k = none) → more.length ≤ 9223372036854775807 → more.length * i.bytes ≤ 140737488355328 →
      K (.sref id 0 more.length) (m1.put id (.own i.size more)) → OpOk P X W pl w (some id) (Builtin.append_ #[ts, tx] ty #[.slice none 0 0, vx]) K := by
    intro pl1 m1 hm1 hid1 hp1 hn1 h63 hb hK
    by_cases h0 : more = []
    · subst h0
      exact ⟨_, _, _, _, run_app_nil ty hu hi hM rfl, hK, .behind hp1 hn1 (StepOk.ownNil hm1 i.size hid1)⟩
    · have hlen : 0 < more.length := by cases more with | nil => exact absurd rfl h0 | cons => simp
      obtain ⟨v, w', hr, hst⟩ := own_grow hm1 hid1 hW ty hu hi hz hzs hM hbv none 0 [] [] (by simp) (by simp) (by simp [Builtin.firstCells]) (by simpa using hlen) (by simpa using h63) (by simpa using hb)
      simp only [List.length_nil, Nat.zero_add, List.nil_append] at hst hr
      exact ⟨_, _, _, _, hr, hK, .behind hp1 hn1 hst⟩
  have idj : ∀ {j : Nat} {l : Loc}, pl j = some l → id ≠ j := fun hl e => by subst e; rw [hid] at hl; cases hl
  split at h
  · split at h <;> try (exact h.elim)
    rename_i v hn
    obtain rfl := isNilSl_eq hn
    obtain rfl := hs.lit_inv
    obtain ⟨hb, h63, h⟩ := h
    rw [memF_eq] at h
    exact nilCase hm hid (.refl _ _) (fun _ h => h) h63 hb h
  · rename_i j sz
    split at h <;> try (exact h.elim)
    rename_i sz' hg
    obtain ⟨hsz, h6⟩ := chk_elim h
    clear h
    obtain ⟨hsz2, hb, h63, h⟩ := chk_elim h6
    clear h6
    rw [delF_eq, memF_eq] at h
    have e1 : sz = i.size := Nat.eq_of_beq_eq_true hsz
    have e2 : sz' = i.size := Nat.eq_of_beq_eq_true hsz2
    subst e1 e2
    obtain ⟨l, hl, hbk⟩ := hm.blk j _ hg
    obtain ⟨ad, cap0, rfl, hcap0, hrows, htok⟩ := sl_inv hs
    obtain ⟨l', hl', htk⟩ := htok j rfl
    rw [hl] at hl'
    obtain rfl := Option.some.inj hl'
    have hle : l.le .gone := by rcases hbk with ⟨rfl, _⟩ | ⟨_, _, rfl, _⟩ <;> exact .inl rfl
    obtain ⟨hm1, hp1⟩ := hm.retire hl hle
    have hid1 : upd pl j .gone id = none := by rw [upd_other _ _ (idj hl)]; exact hid
    have hn1 : ∀ k, pl k = none → upd pl j .gone k = none := fun k hk => by rw [upd_other _ _ (fun e => by subst e; rw [hl] at hk; cases hk)]; exact hk
    rcases hbk with ⟨rfl, hr0⟩ | ⟨b, cap, rfl, hnc, cs, ee, fr, hh, huf, hcs⟩
    · obtain ⟨_, _, hv⟩ := htk
      rw [hv]
      exact nilCase hm1 hid1 hp1 hn1 h63 hb h
    · obtain ⟨_, _, hv⟩ := htk
      have hv := hv rfl
      injection hv with h1 h2 h3
      subst h1 h3
      by_cases hroom : 0 + more.length ≤ cap0
      · obtain ⟨v, w', hr, hst⟩ := own_room hm1 hid1 ty hu hi hM hbv (hm.placed j _ b hl rfl) (fun k li hk hb' => by
            by_cases e : k = j
            · subst e; rw [upd_same] at hk; cases hk; cases hb'
            · rw [upd_other _ _ e] at hk; exact e (hm.apart k j li _ b hk hl hb' rfl)) (fun off hx => by
            have := (hm.xin b off hx).2 j _ hl rfl
            omega) hh huf (Nat.le_of_eq hcs.symm) [] (by simp) hroom
        simp only [List.length_nil, Nat.zero_add, List.nil_append] at hst hr
        exact ⟨_, _, _, _, hr, h, .behind hp1 hn1 hst⟩
      · obtain ⟨v, w', hr, hst⟩ := own_grow hm1 hid1 hW ty hu hi hz hzs hM hbv (some ⟨b, 0, none⟩) cap0 [] [] (by simp) (by simp) (by simp [Builtin.firstCells, loadCells, loadCellsFrom]) (by simp; omega) (by simpa using h63) (by simpa using hb)
        simp only [List.length_nil, Nat.zero_add, List.nil_append] at hst hr
        exact ⟨_, _, _, _, hr, h, .behind hp1 hn1 hst⟩
  · rename_i j lo len
    split at h <;> try (exact h.elim)
    rename_i sz rows hg
    obtain ⟨hlo, h6⟩ := chk_elim h
    clear h
    obtain ⟨hsz, ⟨hrl, hb, h63⟩, h⟩ := chk_elim h6
    clear h6
    rw [delF_eq, memF_eq] at h
    have e1 : sz = i.size := Nat.eq_of_beq_eq_true hsz
    have e2 : lo = 0 := Nat.eq_of_beq_eq_true hlo
    subst e1 e2
    obtain ⟨l, hl, hbk⟩ := hm.blk j _ hg
    have hle : l.le .gone := by rcases hbk with ⟨rfl, _⟩ | ⟨_, rfl, _⟩ <;> exact .inr rfl
    obtain ⟨hm1, hp1⟩ := hm.retire hl hle
    have hid1 : upd pl j .gone id = none := by rw [upd_other _ _ (idj hl)]; exact hid
    have hn1 : ∀ k, pl k = none → upd pl j .gone k = none := fun k hk => by rw [upd_other _ _ (fun e => by subst e; rw [hl] at hk; cases hk)]; exact hk
    have own : ∀ {b : Nat}, l = .own b i.size → ∀ {sCap : Nat}, rows.length ≤ sCap → (roomy w b (sCap * i.size)) → K (.sref id 0 (rows.length + more.length)) (((m.del j).put id (.own i.size (rows ++ more)))) →
        OpOk P X W pl w (some id) (Builtin.append_ #[ts, tx] ty #[.slice (some ⟨b, 0, none⟩) rows.length sCap, vx]) K := by
      intro b hlb sCap hcap hroomy h
      rw [← hrl] at hb h63
      subst hlb
      rcases hbk with ⟨h1, _⟩ | ⟨b2, h1, cs, ee, fr, hh, huf, hlen, hr⟩
      · cases h1
      injection h1 with h1 _
      subst h1
      obtain ⟨cs2, e2, fr2, hh2, hcs2⟩ := hroomy
      rw [hh] at hh2
      injection hh2 with hh2
      injection hh2 with h3 _ _
      subst h3
      have hor : ∀ (k : Nat) (row : List T), rows[k]? = some row → row.length = i.size ∧ ∀ (j' : Nat) (t : T), row[j']? = some t → ∃ v, cs[k * i.size + j']? = some v ∧ VRel X (upd pl j .gone) w t v :=
        fun k row hrow => ⟨(hr k row hrow).1, fun j' t ht => by
          obtain ⟨v, hv, hvr⟩ := (hr k row hrow).2 j' t ht
          exact ⟨v, hv, hvr.mono (.refl _ _) hp1⟩⟩
      by_cases hroom : rows.length + more.length ≤ sCap
      · obtain ⟨v, w', hr2, hst⟩ := own_room hm1 hid1 ty hu hi hM hbv (hm.placed j _ b hl rfl) (fun k li hk hb' => by
            by_cases e : k = j
            · subst e; rw [upd_same] at hk; cases hk; cases hb'
            · rw [upd_other _ _ e] at hk; exact e (hm.apart k j li _ b hk hl hb' rfl)) (fun off hx => (hm.xin b off hx).2 j _ hl rfl) hh huf hcs2 rows hor hroom
        exact ⟨_, _, _, _, hr2, h, .behind hp1 hn1 hst⟩
      · have holdl : (cs.toList.take (rows.length * i.size)).length = rows.length * i.size := by simp; omega
        obtain ⟨v, w', hr2, hst⟩ := own_grow hm1 hid1 hW ty hu hi hz hzs hM hbv (some ⟨b, 0, none⟩) sCap rows (cs.toList.take (rows.length * i.size)) holdl (by
            intro k row hrow
            obtain ⟨hrl, hc⟩ := hor k row hrow
            refine ⟨hrl, fun j' t ht => ?_⟩
            obtain ⟨v, hv, hr⟩ := hc j' t ht
            refine ⟨v, ?_, hr⟩
            have hk : k < rows.length := (List.getElem?_eq_some_iff.1 hrow).1
            have hj : j' < i.size := by rw [← hrl]; exact (List.getElem?_eq_some_iff.1 ht).1
            have : k * i.size + i.size ≤ rows.length * i.size := by rw [← Nat.succ_mul]; exact Nat.mul_le_mul_right _ hk
            rw [List.getElem?_toArray, List.getElem?_take, if_pos (by omega), Array.getElem?_toList]
            exact hv) (by
            have h8 := run_loadCells_list (P := P) w.drew ⟨b, 0, none⟩ (cs.toList.take (rows.length * i.size)) (fun k v hk => by
              rw [Addr.add_lit, Nat.zero_add, World.cell?_drew, cell_of_row w b k cs ee fr hh]
              rw [List.getElem?_take] at hk
              split at hk
              · rw [← hk, Array.getElem?_toList]
              · cases hk)
            rw [holdl] at h8
            exact h8) (by omega) h63 hb
        exact ⟨_, _, _, _, hr2, h, .behind hp1 hn1 hst⟩
    cases hs with
    | srefn _ hp =>
      have h0 : rows = [] := List.length_eq_zero_iff.1 hrl
      subst h0
      simp only [Nat.zero_add, List.nil_append] at h h63 hb
      exact nilCase hm1 hid1 hp1 hn1 h63 hb h
    | srefz _ _ b sz' a hp =>
      replace hp := own_pl hm hg hp
      have h0 : rows = [] := List.length_eq_zero_iff.1 hrl
      subst h0
      simp only [Nat.zero_add, List.nil_append] at h h63 hb
      rw [hl] at hp
      obtain rfl := Option.some.inj hp
      by_cases hm0 : more = []
      · subst hm0
        rcases hbk with ⟨h1, _⟩ | ⟨b2, h1, cs, ee, fr, hh, huf, hlen, hr⟩
        · cases h1
        injection h1 with h1 _
        subst h1
        refine ⟨_, _, _, _, run_app_nil2 ty hu hi hM a, h, .behind hp1 hn1 (StepOk.adopt (b := b) hm1 hid1 (hm.placed j _ b hl rfl) (fun k li hk hb' => by
            by_cases e : k = j
            · subst e; rw [upd_same] at hk; cases hk; cases hb'
            · rw [upd_other _ _ e] at hk; exact e (hm.apart k j li _ b hk hl hb' rfl)) (fun off hx => (hm.xin b off hx).2 j _ hl rfl) hh huf (fun _ _ => rfl) rfl rfl rfl rfl (by simp) (by simp) (.srefz _ _ b _ a (.inl (upd_same _ _ _))))⟩
      · have hlen : 0 < more.length := by cases more with | nil => exact absurd rfl hm0 | cons => simp
        obtain ⟨v, w', hr2, hst⟩ := own_grow hm1 hid1 hW ty hu hi hz hzs hM hbv a 0 [] [] (by simp) (by simp) (by cases a <;> simp [Builtin.firstCells, loadCells, loadCellsFrom]) (by simpa using hlen) (by simpa using h63) (by simpa using hb)
        simp only [List.length_nil, Nat.zero_add, List.nil_append] at hst hr2
        exact ⟨_, _, _, _, hr2, h, .behind hp1 hn1 hst⟩
    | sref _ _ _ b sz' cap hp hcap hroom =>
      replace hp := own_pl hm hg hp
      obtain ⟨rfl, _⟩ := own_get hm hg hp
      have hro := hroom hp
      rw [hl] at hp
      subst hrl
      have := own (Option.some.inj hp) hcap (by rwa [Nat.zero_add] at hro) h
      simpa using this
  · exact h.elim
end app

end
end Go.AW
