/- Soundness: append. -/
import Derived.Test.YtciboampiaainaaDoorAw9
import Derived.Laws.MakeOwn
import Derived.Great.FillDense
set_option linter.unusedVariables false
set_option linter.unusedSimpArgs false
namespace Go.AW
open Go

section
variable {P : Program} {X X' : Xs} {W : Nat → Prop} {pl : Pl} {w w' : World} {m : Mem}

/-- The rows of a slice that is read, as a list of cells in memory. -/
theorem flat_of_sl {a : Option Addr} {sz : Nat} {rows : List (List T)}
    (h : ∀ (i : Nat) (row : List T), rows[i]? = some row → row.length = sz ∧ ∃ b o, a = some ⟨b, o, none⟩ ∧
      ∀ (j : Nat) (t : T), row[j]? = some t → X b (o + i * sz + j) ∧ ∃ c, w.cell? ⟨b, o + i * sz + j, none⟩ = some c ∧ BRel X w t c ∧ c.oneCell' = true) :
    ∃ cs : List Value, cs.length = rows.length * sz ∧ RowsIn X w cs.toArray sz rows ∧
      (rows = [] ∨ ∃ b o, a = some ⟨b, o, none⟩ ∧ ∀ (j : Nat) (v : Value), cs[j]? = some v → w.cell? ⟨b, o + j, none⟩ = some v) := by
  by_cases hr : rows = []
  · subst hr
    exact ⟨[], by simp, fun i row h => by simp at h, .inl rfl⟩
  · obtain ⟨r0, hr0⟩ : ∃ r0, rows[0]? = some r0 := by cases rows with | nil => exact absurd rfl hr | cons x r => exact ⟨x, rfl⟩
    obtain ⟨_, b, o, rfl, _⟩ := h 0 r0 hr0
    have key : ∀ k, k < rows.length * sz → ∃ v, w.cell? ⟨b, o + k, none⟩ = some v ∧ True := by
      intro k hk
      have hsz : 0 < sz := by
        rcases Nat.eq_zero_or_pos sz with h0 | h0
        · subst h0; simp at hk
        · exact h0
      have hq : k / sz < rows.length := by rw [Nat.div_lt_iff_lt_mul hsz]; exact hk
      obtain ⟨hl, b', o', e, hc⟩ := h (k / sz) rows[k / sz] (by simp [hq])
      injection e with e; injection e with e1 e2
      subst e1 e2
      have hm : k % sz < sz := Nat.mod_lt _ hsz
      obtain ⟨_, c, hc2, _⟩ := hc (k % sz) (rows[k / sz])[k % sz] (by simp [hl, hm])
      have hdm : k / sz * sz + k % sz = k := by rw [Nat.mul_comm]; exact Nat.div_add_mod k sz
      exact ⟨c, by rw [← hdm, ← Nat.add_assoc]; exact hc2, trivial⟩
    obtain ⟨cs, hcl, hc1, _⟩ := cells_list (w := w) (rows.length * sz) b o (fun _ _ => True) key
    refine ⟨cs, hcl, ?_, .inr ⟨b, o, rfl, hc1⟩⟩
    intro i row hrow
    obtain ⟨hl, b', o', e, hc⟩ := h i row hrow
    injection e with e; injection e with e1 e2
    subst e1 e2
    refine ⟨hl, fun j t ht => ?_⟩
    obtain ⟨_, c, hc2, hb, ho⟩ := hc j t ht
    have hi : i < rows.length := (List.getElem?_eq_some_iff.1 hrow).1
    have hj : j < sz := by rw [← hl]; exact (List.getElem?_eq_some_iff.1 ht).1
    have hlt : i * sz + j < cs.length := by
      have : i * sz + sz ≤ rows.length * sz := by rw [← Nat.succ_mul]; exact Nat.mul_le_mul_right _ hi
      omega
    have hv := hc1 (i * sz + j) cs[i * sz + j] (by simp [hlt])
    rw [← Nat.add_assoc, hc2] at hv
    refine ⟨c, ?_, hb, ho⟩
    simp [hlt, Option.some.inj hv]

theorem rows_one {cs : List Value} {sz : Nat} {rows : List (List T)} (hl : cs.length = rows.length * sz) (h : RowsIn X w cs.toArray sz rows) : ∀ u ∈ cs, u.oneCell' = true := by
  intro u hu
  obtain ⟨k, hk, rfl⟩ := List.getElem_of_mem hu
  have hsz : 0 < sz := by
    rcases Nat.eq_zero_or_pos sz with h0 | h0
    · subst h0; rw [Nat.mul_zero] at hl; omega
    · exact h0
  have hq : k / sz < rows.length := by rw [Nat.div_lt_iff_lt_mul hsz]; omega
  have hm : k % sz < sz := Nat.mod_lt _ hsz
  obtain ⟨hrl, hc⟩ := h (k / sz) rows[k / sz] (by simp [hq])
  obtain ⟨v, hv, _, ho⟩ := hc (k % sz) (rows[k / sz])[k % sz] (by simp [hrl, hm])
  have hdm : k / sz * sz + k % sz = k := by rw [Nat.mul_comm]; exact Nat.div_add_mod k sz
  rw [hdm] at hv
  simp [hk] at hv
  rw [hv]; exact ho

/-- What is appended. -/
structure MoreC (P : Program) (X : Xs) (w : World) (tx : TypeId) (size : Nat) (vx : Value) (more : List (List T)) (cs : List Value) : Prop where
  len : cs.length = more.length * size
  rows : RowsIn X w cs.toArray size more
  many : ∀ w1, (Builtin.lenOf vx).run P w1 = .ok more.length w1
  first : ∀ w1 : World, w1.heap = w.heap → (Builtin.firstCells size more.length vx).run P w1 = .ok cs.toArray w1
  notInt : P.underlying tx = some .string ∨ ∃ e, P.underlying tx = some (.slice e)

theorem bytesR_rows {l : List UInt8} : RowsIn X w (l.map fun b => Value.int .u8 b.toNat).toArray 1 (bytesR l) := by
  intro i row h
  simp only [bytesR, List.getElem?_map] at h
  cases e : l[i]? with
  | none => simp [e] at h
  | some b =>
    simp [e] at h
    subst h
    refine ⟨rfl, fun j t ht => ?_⟩
    cases j with
    | zero =>
      simp at ht; subst ht
      exact ⟨.int .u8 b.toNat, by simp [e], .lit _, rfl⟩
    | succ j => simp at ht

theorem moreA_ok {e : TypeId} {i : TypeInfo} {tx : TypeId} {x : T} {vx : Value} (hx : VRel X pl w x vx) {K : List (List T) → Prop} (h : moreA P m e i tx x K) :
    ∃ more cs, MoreC P X w tx i.size vx more cs ∧ K more := by
  unfold moreA at h
  split at h
  · rename_i ee hu
    split at h
    · obtain ⟨hs, h2⟩ := chk_elim h
      obtain rfl := Nat.eq_of_beq_eq_true hs
      rename_i tok rows
      obtain ⟨a, cap, rfl, hcap, hrows, _⟩ := sl_inv hx
      obtain ⟨cs, hcl, hri, hmem⟩ := flat_of_sl hrows
      refine ⟨rows, cs, ⟨hcl, hri, fun w1 => by simp [Builtin.lenOf], ?_, .inr ⟨_, hu⟩⟩, h2⟩
      intro w1 hw1
      rcases hmem with rfl | ⟨b, o, rfl, hmem⟩
      · have : cs = [] := by simpa using hcl
        subst this
        cases a with
        | none => simp [Builtin.firstCells]
        | some a => simp [Builtin.firstCells, loadCells, loadCellsFrom]
      · simp only [Builtin.firstCells]
        rw [← hcl]
        refine run_loadCells_list w1 ⟨b, o, none⟩ cs fun j v hj => ?_
        rw [Addr.add_lit]
        have := hmem j v hj
        simpa [World.cell?, hw1] using this
    · split at h <;> try (exact h.elim)
      rename_i hn
      obtain rfl := isNilSl_eq hn
      obtain rfl := hx.lit_inv
      exact ⟨[], [], ⟨by simp, fun i row h => by simp at h, fun w1 => by simp [Builtin.lenOf], fun w1 _ => by simp [Builtin.firstCells], .inr ⟨_, hu⟩⟩, h⟩
    · exact h.elim
  · rename_i hu
    split at h <;> try (exact h.elim)
    rename_i s
    obtain ⟨hs, h2⟩ := chk_elim h
    have hs' : i.size = 1 := (Nat.eq_of_beq_eq_true hs).symm
    obtain rfl := hx.lit_inv
    refine ⟨_, s.data.toList.map fun b => Value.int .u8 b.toNat, ⟨by simp [bytesR, hs'], by rw [hs']; exact bytesR_rows, fun w1 => ?_, fun w1 _ => ?_, .inl hu⟩, h2⟩
    · simp [Builtin.lenOf, bytesR]
    · simp only [Builtin.firstCells, Sem.run_pure, bytesR, List.length_map, Array.length_toList]
      congr 1
      have : s.extract 0 s.data.size = s := by
        have h3 : s.data.size = s.size := rfl
        rw [h3, ByteArray.extract_zero_size]
      rw [this]
      apply Array.ext'
      simp
  · exact h.elim

/-- Rows to append, or zero rows by number. -/
structure More (P : Program) (X : Xs) (w : World) (tx : TypeId) (i : TypeInfo) (vx : Value) (more : List (List T)) (cs : List Value) : Prop where
  len : cs.length = more.length * i.size
  rows : RowsIn X w cs.toArray i.size more
  run : ((∀ w1, (Builtin.lenOf vx).run P w1 = .ok more.length w1) ∧ (∀ w1 : World, w1.heap = w.heap → (Builtin.firstCells i.size more.length vx).run P w1 = .ok cs.toArray w1) ∧
      (P.underlying tx = some .string ∨ ∃ e, P.underlying tx = some (.slice e))) ∨
    (∃ (k kk : IntKind) (z : Value), P.underlying tx = some (.int k) ∧ vx = .int kk more.length ∧ more.length ≤ 9223372036854775807 ∧ (more.length : Int) * i.bytes ≤ 281474976710656 ∧ i.zero = some z ∧ cs.toArray = Builtin.zeroCells z.cells more.length)
theorem MoreC.more {tx : TypeId} {i : TypeInfo} {vx : Value} {more : List (List T)} {cs : List Value} (h : MoreC P X w tx i.size vx more cs) : More P X w tx i vx more cs :=
  ⟨h.len, h.rows, .inl ⟨h.many, h.first, h.notInt⟩⟩

theorem madeCells_rows {z : Value} {sz n c : Nat} (hz : z.cells.size = sz) (hpos : 0 < sz) (hall : z.cells.toList.all Value.oneCell' = true) (hn : n ≤ c) :
    RowsIn X w (madeCells z.cells (c * sz)) sz (List.replicate n (z.cells.toList.map .lit)) := by
  intro i row h
  have hi : i < n := by simpa using (List.getElem?_eq_some_iff.1 h).1
  simp [hi] at h
  subst h
  refine ⟨by simp [hz], fun j t ht => ?_⟩
  obtain ⟨u, hu, rfl⟩ := getElem?_lit_cells z j t (by simpa using ht)
  have hj : j < sz := by rw [← hz]; exact (Array.getElem?_eq_some_iff.1 hu).1
  refine ⟨u, ?_, .lit u, ?_⟩
  · have hlt : i * sz + j < c * sz := by
      have : i * sz + sz ≤ c * sz := by rw [← Nat.succ_mul]; exact Nat.mul_le_mul_right _ (by omega)
      omega
    have hmod : (i * sz + j) % z.cells.size = j := by rw [hz, Nat.mul_comm, Nat.mul_add_mod, Nat.mod_eq_of_lt hj]
    simp only [madeCells, Array.getElem?_map, Array.getElem?_range, hlt, if_true, Option.map_some, hmod]
    rw [getElem!_def, hu]
  · have hm : u ∈ z.cells.toList := by
      obtain ⟨h1, h2⟩ := Array.getElem?_eq_some_iff.1 hu
      rw [← h2]; simp
    exact List.all_eq_true.1 hall u hm

theorem moreZ_ok {e : TypeId} {i : TypeInfo} {z : Value} {tx : TypeId} {x : T} {vx : Value} (hz : i.zero = some z) (hzs : z.cells.size = i.size) (hpos : 0 < i.size) (hx : VRel X pl w x vx) {K : List (List T) → Prop} (h : moreZ P m e i z tx x K) :
    ∃ more cs, More P X w tx i vx more cs ∧ K more := by
  unfold moreZ at h
  split at h
  · rename_i k hu
    split at h <;> try (exact h.elim)
    rename_i kk n
    obtain ⟨hall, ⟨h0, h63, h48⟩, hK⟩ := chk_elim h
    obtain rfl := hx.lit_inv
    have hn : ((n.toNat : Nat) : Int) = n := Int.toNat_of_nonneg h0
    refine ⟨_, (madeCells z.cells (n.toNat * i.size)).toList, ⟨by simp [size_madeCells], ?_, .inr ⟨k, kk, z, hu, ?_, ?_, ?_, hz, ?_⟩⟩, hK⟩
    · have := madeCells_rows (X := X) (w := w) hzs hpos hall (Nat.le_refl n.toNat)
      simpa using this
    · rw [List.length_replicate, hn]
    · rw [List.length_replicate]; omega
    · rw [List.length_replicate, hn]; exact h48
    · rw [List.length_replicate]
      rw [Array.toArray_toList, madeCells, Builtin.zeroCells, hzs]
  · obtain ⟨more, cs, hM, hK⟩ := moreA_ok hx h
    exact ⟨more, cs, hM.more, hK⟩

theorem wrapI64_of_le {n : Nat} (h : n ≤ 9223372036854775807) : IntKind.i64.wrap (n : Int) = n := by
  have e1 : (2 : Int) ^ IntKind.i64.bits = 18446744073709551616 := by decide
  have e2 : (2 : Int) ^ (IntKind.i64.bits - 1) = 9223372036854775808 := by decide
  simp only [IntKind.wrap, e1, e2, show IntKind.i64.signed = true from rfl, Bool.true_and, decide_eq_true_eq]
  split <;> rename_i h0 <;> omega
section run
variable {ts tx e : TypeId} {i : TypeInfo} {z : Value}

theorem run_app_grow (ty : TypeId) (hu : P.underlying ts = some (.slice e)) (hi : P.info? e = some i) (hz : i.zero = some z) {vx : Value} {more : List (List T)} {news : List Value}
    (hm : More P X w tx i vx more news) (base : Option Addr) (sLen sCap : Nat) (olds : Array Value)
    (hold : (Builtin.firstCells i.size sLen (.slice base sLen sCap)).run P w.drew = .ok olds w.drew)
    (hg : sCap < sLen + more.length) (h63 : sLen + more.length ≤ 9223372036854775807) (hb : (sLen + more.length) * i.bytes ≤ 140737488355328) :
    (Builtin.append_ #[ts, tx] ty #[.slice base sLen sCap, vx]).run P w =
      .ok (.slice (some ⟨w.heap.size, 0, none⟩) (sLen + more.length) (grownCap w (sLen + more.length) sCap e))
        (w.drew.alloc (.cells (olds ++ news.toArray ++ Builtin.zeroCells z.cells (grownCap w (sLen + more.length) sCap e - (sLen + more.length))) e)) := by
  have hn : ¬ (sLen + more.length ≤ sCap) := by omega
  have h63' : ¬ (9223372036854775807 < ((sLen : Int) + (more.length : Int))) := by omega
  have hfit := growslice_fits hg hb
  have h48' : ¬ (281474976710656 < Builtin.nextslicecap (sLen + more.length) sCap * i.bytes) := by omega
  rcases hm.run with ⟨many, first, hd | ⟨ee2, hd⟩⟩ | ⟨k, kk, z', hd, rfl, hl, hb2, hz', hc⟩
  · simp [Builtin.append_, run_underlying hu, run_underlying hd, sizeOf, typeInfo, zeroValue, hi, hz, many, hn, h63', h48', Question.forced, hold, first w.drew rfl, newRow, grownCap]
  · simp [Builtin.append_, run_underlying hu, run_underlying hd, sizeOf, typeInfo, zeroValue, hi, hz, many, hn, h63', h48', Question.forced, hold, first w.drew rfl, newRow, grownCap]
  · obtain rfl := Option.some.inj (hz.symm.trans hz')
    have hw : IntKind.i64.wrap (more.length : Int) = more.length := wrapI64_of_le hl
    have hneg : ¬ ((more.length : Int) < 0) := by omega
    have hbig : ¬ (281474976710656 < (more.length : Int) * i.bytes) := by omega
    by_cases hz0 : more.length * i.size = 0
    · obtain rfl : news = [] := List.length_eq_zero_iff.1 (by rw [hm.len, hz0])
      simp [-List.length_eq_zero_iff, Builtin.append_, run_underlying hu, run_underlying hd, sizeOf, typeInfo, zeroValue, asInt, asIntOf, hi, hz, hw, hneg, hbig, hn, h63', h48', Question.forced, hold, newRow, grownCap, hz0]
    · simp [-List.length_eq_zero_iff, Builtin.append_, run_underlying hu, run_underlying hd, sizeOf, typeInfo, zeroValue, asInt, asIntOf, hi, hz, hw, hneg, hbig, hn, h63', h48', Question.forced, hold, newRow, grownCap, hz0, ← hc]

theorem run_app_room (ty : TypeId) (hu : P.underlying ts = some (.slice e)) (hi : P.info? e = some i) {vx : Value} {more : List (List T)} {news : List Value}
    (hm : More P X w tx i vx more news) (b sLen sCap : Nat) (cs : Array Value) (ee : TypeId) (fr : Nat × Nat) (hh : w.heap[b]? = some (.cells cs ee fr)) (huf : unfrozen w b cs.size)
    (hroom : sLen + more.length ≤ sCap) (hfit : sLen * i.size + news.length ≤ cs.size) (h1 : ∀ u ∈ news, u.oneCell' = true) :
    (Builtin.append_ #[ts, tx] ty #[.slice (some ⟨b, 0, none⟩) sLen sCap, vx]).run P w =
      .ok (.slice (some ⟨b, 0, none⟩) (sLen + more.length) sCap) (w.setRow b (cs.toList.take (sLen * i.size) ++ news ++ cs.toList.drop (sLen * i.size + news.length)).toArray) := by
  have hst := run_storeCells_u (P := P) b (sLen * i.size) ee fr news 0 cs w hh huf (by simpa using hfit) h1
  simp only [Nat.add_zero] at hst
  rcases hm.run with ⟨many, first, hd | ⟨ee2, hd⟩⟩ | ⟨k, kk, z', hd, rfl, hl, hb2, hz', hc⟩
  · simp [Builtin.append_, run_underlying hu, run_underlying hd, sizeOf, typeInfo, hi, many, hroom, first w rfl, Addr.add_lit, hst]
  · simp [Builtin.append_, run_underlying hu, run_underlying hd, sizeOf, typeInfo, hi, many, hroom, first w rfl, Addr.add_lit, hst]
  · have hw : IntKind.i64.wrap (more.length : Int) = more.length := wrapI64_of_le hl
    have hneg : ¬ ((more.length : Int) < 0) := by omega
    have hbig : ¬ (281474976710656 < (more.length : Int) * i.bytes) := by omega
    by_cases hz0 : more.length * i.size = 0
    · obtain rfl : news = [] := List.length_eq_zero_iff.1 (by rw [hm.len, hz0])
      simp [-List.length_eq_zero_iff, Builtin.append_, run_underlying hu, run_underlying hd, sizeOf, typeInfo, zeroValue, asInt, asIntOf, hi, hz', hw, hneg, hbig, hroom, Addr.add_lit, hst, hz0]
    · simp [-List.length_eq_zero_iff, Builtin.append_, run_underlying hu, run_underlying hd, sizeOf, typeInfo, zeroValue, asInt, asIntOf, hi, hz', hw, hneg, hbig, hroom, Addr.add_lit, hst, hz0, ← hc]

theorem run_app_nil (ty : TypeId) (hu : P.underlying ts = some (.slice e)) (hi : P.info? e = some i) {vx : Value} {more : List (List T)} {news : List Value}
    (hm : More P X w tx i vx more news) (h0 : more = []) :
    (Builtin.append_ #[ts, tx] ty #[.slice none 0 0, vx]).run P w = .ok (.slice none 0 0) w := by
  subst h0
  rcases hm.run with ⟨many, first, hd⟩ | ⟨k, kk, z', hd, rfl, hl, hb2, hz', hc⟩
  · have hf := first w rfl
    simp only [List.length_nil] at hf
    rcases hd with hd | ⟨ee2, hd⟩ <;> simp [Builtin.append_, run_underlying hu, run_underlying hd, sizeOf, typeInfo, hi, many, hf]
  · have hw : IntKind.i64.wrap 0 = 0 := rfl
    simp [Builtin.append_, run_underlying hu, run_underlying hd, sizeOf, typeInfo, zeroValue, asInt, asIntOf, hi, hz', hw]
end run

end
end Go.AW
