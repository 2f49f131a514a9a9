import Derived.Test.YtmobiphgmdigjaaAw10
/- Soundness: append, on. -/
set_option linter.unusedVariables false
set_option linter.unusedSimpArgs false
namespace Go.AW
open Go

section
variable {P : Program} {X X' : Xs} {W : Nat → Prop} {pl : Pl} {w w' : World} {m : Mem}

theorem rowsIn_append {sz : Nat} {r1 r2 : List (List T)} {c1 c2 c3 : List Value} (h1l : c1.length = r1.length * sz) (h1 : RowsIn X w c1.toArray sz r1) (h2l : c2.length = r2.length * sz) (h2 : RowsIn X w c2.toArray sz r2) :
    RowsIn X w (c1 ++ c2 ++ c3).toArray sz (r1 ++ r2) := by
  intro i row hrow
  by_cases hi : i < r1.length
  · rw [List.getElem?_append_left hi] at hrow
    obtain ⟨hl, hc⟩ := h1 i row hrow
    refine ⟨hl, fun j t ht => ?_⟩
    obtain ⟨v, hv, hb⟩ := hc j t ht
    refine ⟨v, ?_, hb⟩
    have hlt : i * sz + j < c1.length := by simpa using (Array.getElem?_eq_some_iff.1 hv).1
    simp only [List.getElem?_toArray] at hv ⊢
    rw [List.append_assoc, List.getElem?_append_left hlt]; exact hv
  · rw [List.getElem?_append_right (by omega)] at hrow
    obtain ⟨hl, hc⟩ := h2 _ row hrow
    refine ⟨hl, fun j t ht => ?_⟩
    obtain ⟨v, hv, hb⟩ := hc j t ht
    refine ⟨v, ?_, hb⟩
    have hlt : (i - r1.length) * sz + j < c2.length := by simpa using (Array.getElem?_eq_some_iff.1 hv).1
    have e : i * sz + j - c1.length = (i - r1.length) * sz + j := by
      rw [h1l, Nat.sub_mul]
      have : r1.length * sz ≤ i * sz := Nat.mul_le_mul_right _ (by omega)
      omega
    have hge : c1.length ≤ i * sz + j := by
      have : r1.length * sz ≤ i * sz := Nat.mul_le_mul_right _ (by omega)
      omega
    simp only [List.getElem?_toArray] at hv ⊢
    rw [List.append_assoc, List.getElem?_append_right hge, e, List.getElem?_append_left hlt]; exact hv

theorem rowsIn_drew {cs : Array Value} {sz : Nat} {rows : List (List T)} (h : RowsIn X w cs sz rows) : RowsIn X w.drew cs sz rows :=
  fun i row hr => ⟨(h i row hr).1, fun j t ht => by
    obtain ⟨v, hv, hb, ho⟩ := (h i row hr).2 j t ht
    exact ⟨v, hv, hb.mono (w' := w.drew) (show XMono X X w w.drew from fun _ _ h => ⟨h, rfl⟩), ho⟩⟩

theorem StepOk.reid {j : Nat} {id : Option Nat} {l : Loc} (hl : pl j = some l) {m'' : Mem} {t : T} {v : Value} {w2 : World} (h : StepOk X W pl w (some j) m'' t v w2) : StepOk X W pl w id m'' t v w2 := by
  obtain ⟨X', pl', hx1, hp1, hn1, rest⟩ := h
  refine ⟨X', pl', hx1, hp1, ?_, rest⟩
  intro k hk hkn
  by_cases hkj : k = j
  · subst hkj; rw [hl] at hkn; cases hkn
  · exact hn1 k (fun e => hkj (Option.some.inj e).symm) hkn

theorem appendA_ok (hm : MRel X W pl w m) {id : Nat} (hid : pl id = none) (hW : ∀ b, w.heap.size ≤ b → W b) (br : Bool) {ts tx : TypeId} {s x : T} {vs vx : Value} (ty : TypeId)
    (hs : VRel X pl w s vs) (hx : VRel X pl w x vx) (K : T → Mem → Prop) (h : appendA P m id br ts tx s x K) :
    OpOk P X W pl w (some id) (Builtin.append_ #[ts, tx] ty #[vs, vx]) K := by
  unfold appendA at h
  split at h <;> try (exact h.elim)
  rename_i e hu
  split at h <;> try (exact h.elim)
  rename_i i hi
  split at h <;> try (exact h.elim)
  rename_i z hz
  have hzs := (chk_elim h).1
  replace h := (chk_elim h).2
  have hpos := (chk_elim h).1
  replace h := (chk_elim h).2
  have hzs' : z.cells.size = i.size := Nat.eq_of_beq_eq_true hzs
  have hpos' : 0 < i.size := by have : 1 ≤ i.size := by simpa [Nat.blt] using hpos
                                exact this
  obtain ⟨more, news, hM, h5⟩ := moreZ_ok hz hzs' hpos' hx h
  clear h
  cases br with
  | true => exact appO_ok hm hid hW ty hu hi hz hzs' hM hs K h5
  | false =>
  simp only at h5
  -- a new block with old rows and more
  have grow : ∀ (j : Nat) (base : Option Addr) (sCap : Nat) (rows : List (List T)) (olds : List Value), olds.length = rows.length * i.size → RowsIn X w olds.toArray i.size rows →
      (Builtin.firstCells i.size rows.length (.slice base rows.length sCap)).run P w.drew = .ok olds.toArray w.drew → sCap < rows.length + more.length →
      rows.length + more.length ≤ 9223372036854775807 → (rows.length + more.length) * i.bytes ≤ 140737488355328 →
      (∀ l, pl j = some l → (∀ b cap, l.le (.tok b i.size (rows ++ more).length cap)) ∧ ∀ b sz, l ≠ .own b sz) →
      ∃ v w', (Builtin.append_ #[ts, tx] ty #[.slice base rows.length sCap, vx]).run P w = .ok v w' ∧ StepOk X W pl w (some j) (m.put j (.tok i.size (rows.length + more.length))) (.sl (some j) i.size (rows ++ more)) v w' := by
    intro j base sCap rows olds hol hor hfirst hg h63 hb hj
    refine ⟨_, _, run_app_grow ty hu hi hz hM base rows.length sCap olds.toArray hfirst hg h63 hb, .drew ?_⟩
    have hge := grownCap_ge w (rows.length + more.length) sCap e
    have hcs : (olds ++ news ++ (Builtin.zeroCells z.cells (grownCap w (rows.length + more.length) sCap e - (rows.length + more.length))).toList).toArray =
        olds.toArray ++ news.toArray ++ Builtin.zeroCells z.cells (grownCap w (rows.length + more.length) sCap e - (rows.length + more.length)) := by
      apply Array.ext'; simp
    rw [← hcs, ← List.length_append]
    refine StepOk.tok (hm.drew) hW _ e (.alloc w.drew _ e) i.size _ (rows ++ more) ?_ (by rw [List.length_append]; exact hge) ?_ ?_
    · simp only [List.size_toArray, List.length_append, Array.length_toList, size_zeroCells, hol, hM.len, hzs', ← Nat.add_mul]
      congr 1; omega
    · exact rowsIn_drew (rowsIn_append hol hor hM.len hM.rows)
    · intro l hl
      exact ⟨(hj l hl).1 _ _, (hj l hl).2⟩
  split at h5
  · split at h5 <;> try (exact h5.elim)
    rename_i v hn
    obtain rfl := isNilSl_eq hn
    obtain rfl := hs.lit_inv
    obtain ⟨hb, h63, h⟩ := h5
    rw [memF_eq] at h
    by_cases h0 : more = []
    · subst h0
      exact ⟨_, _, _, _, run_app_nil ty hu hi hM rfl, h, StepOk.tokn hm i.size (.inl hid)⟩
    · have hlen : 0 < more.length := by cases more with | nil => exact absurd rfl h0 | cons => simp
      obtain ⟨v, w', hr, hst⟩ := grow id none 0 [] [] (by simp) (fun i row h => by simp at h) (by simp [Builtin.firstCells]) (by simpa using hlen) (by simpa using h63) (by simpa using hb) (fun l hl => by rw [hid] at hl; cases hl)
      simp only [List.length_nil, Nat.zero_add, List.nil_append] at hst hr
      exact ⟨_, _, _, _, hr, h, hst⟩
  · rename_i j sz rows
    split at h5 <;> try (exact h5.elim)
    rename_i sz' n hg
    obtain ⟨hsz, h6⟩ := chk_elim h5
    obtain ⟨hsz2, hrn, hb, h63, h⟩ := chk_elim h6
    clear h5 h6
    rw [memF_eq] at h
    have e1 : sz = i.size := Nat.eq_of_beq_eq_true hsz
    have e2 : sz' = i.size := Nat.eq_of_beq_eq_true hsz2
    subst e1 e2
    subst hrn
    obtain ⟨l, hl, hbk⟩ := hm.blk j _ hg
    obtain ⟨ad, cap0, rfl, hcap0, hrows, htok⟩ := sl_inv hs
    obtain ⟨l', hl', htk⟩ := htok j rfl
    rw [hl] at hl'
    obtain rfl := Option.some.inj hl'
    rcases hbk with ⟨rfl, hr0⟩ | ⟨b, cap, rfl, hnc, cs, ee, fr, hh, huf, hcs⟩
    · obtain ⟨_, rfl, hv⟩ := htk
      injection hv with h1 h2 h3
      subst h1 h3
      by_cases h0 : more = []
      · subst h0
        exact ⟨_, _, _, _, run_app_nil ty hu hi hM rfl, h, .reid hl (StepOk.tokn hm i.size (.inr hl))⟩
      · have hlen : 0 < more.length := by cases more with | nil => exact absurd rfl h0 | cons => simp
        obtain ⟨v, w', hr, hst⟩ := grow j none 0 [] [] (by simp) (fun i row h => by simp at h) (by simp [Builtin.firstCells]) (by simpa using hlen) h63 hb (fun l2 hl2 => by
          rw [hl] at hl2
          obtain rfl := Option.some.inj hl2
          exact ⟨fun b cap => .inr (.inr ⟨_, _, _, rfl, by simpa using hlen⟩), fun b sz => by simp⟩)
        exact ⟨_, _, _, _, hr, h, .reid hl hst⟩
    · obtain ⟨_, _, hv⟩ := htk
      have hv := hv rfl
      injection hv with h1 h2 h3
      subst h1 h3
      -- the old rows in the block
      have hold : ∀ (i2 : Nat) (row : List T), rows[i2]? = some row → row.length = i.size ∧ ∀ (j2 : Nat) (t : T), row[j2]? = some t → ∃ v, cs[i2 * i.size + j2]? = some v ∧ BRel X w t v ∧ v.oneCell' = true := by
        intro i2 row hrow
        obtain ⟨hrl, b', o', e3, hc⟩ := hrows i2 row hrow
        injection e3 with e3
        injection e3 with e4 e5
        subst e4 e5
        refine ⟨hrl, fun j2 t ht => ?_⟩
        obtain ⟨_, c, hc2, hb2, ho⟩ := hc j2 t ht
        rw [Nat.zero_add, cell_of_row w b _ cs ee fr hh] at hc2
        exact ⟨c, hc2, hb2, ho⟩
      have hnl : rows.length * i.size ≤ cs.size := by rw [hcs]; exact Nat.mul_le_mul_right _ hnc
      have holdl : (cs.toList.take (rows.length * i.size)).length = rows.length * i.size := by simp; omega
      have holdr : RowsIn X w (cs.toList.take (rows.length * i.size)).toArray i.size rows := by
        intro i2 row hrow
        obtain ⟨hrl, hc⟩ := hold i2 row hrow
        refine ⟨hrl, fun j2 t ht => ?_⟩
        obtain ⟨v, hv, rest⟩ := hc j2 t ht
        refine ⟨v, ?_, rest⟩
        have hi2 : i2 < rows.length := (List.getElem?_eq_some_iff.1 hrow).1
        have hj2 : j2 < i.size := by rw [← hrl]; exact (List.getElem?_eq_some_iff.1 ht).1
        have : i2 * i.size + i.size ≤ rows.length * i.size := by rw [← Nat.succ_mul]; exact Nat.mul_le_mul_right _ hi2
        rw [List.getElem?_toArray, List.getElem?_take, if_pos (by omega), Array.getElem?_toList]
        exact hv
      by_cases hroom : rows.length + more.length ≤ cap0
      · have hfit : rows.length * i.size + news.length ≤ cs.size := by rw [hM.len, hcs, ← Nat.add_mul]; exact Nat.mul_le_mul_right _ hroom
        have hr := run_app_room (ts := ts) (tx := tx) ty hu hi hM b rows.length cap0 cs ee fr hh huf hroom hfit (rows_one hM.len hM.rows)
        have hst := StepOk.tokRoom hm hl hh huf hcs (cs' := (cs.toList.take (rows.length * i.size) ++ news ++ cs.toList.drop (rows.length * i.size + news.length)).toArray)
          (by simp; omega) (by
            intro k hk
            rw [List.getElem?_toArray, List.append_assoc, List.getElem?_append_left (by simp; omega), List.getElem?_take, if_pos hk, Array.getElem?_toList])
          (rows ++ more) (by simp) (by simpa using hroom) (rowsIn_append holdl holdr hM.len hM.rows)
        rw [List.length_append] at hst
        exact ⟨_, _, _, _, hr, h, StepOk.reid hl hst⟩
      · obtain ⟨v, w', hr, hst⟩ := grow j (some ⟨b, 0, none⟩) cap0 rows (cs.toList.take (rows.length * i.size)) holdl holdr (by
            have h8 := run_loadCells_list (P := P) w.drew ⟨b, 0, none⟩ (cs.toList.take (rows.length * i.size)) (fun k v hk => by
              rw [Addr.add_lit, Nat.zero_add, World.cell?_drew, cell_of_row w b k cs ee fr hh]
              rw [List.getElem?_take] at hk
              split at hk
              · rw [← hk, Array.getElem?_toList]
              · cases hk)
            rw [holdl] at h8
            exact h8) (by omega) h63 hb (fun l2 hl2 => by
          rw [hl] at hl2
          obtain rfl := Option.some.inj hl2
          exact ⟨fun b2 cap2 => .inr (.inr ⟨_, _, _, rfl, by simp; omega⟩), fun b sz => by simp⟩)
        exact ⟨_, _, _, _, hr, h, StepOk.reid hl hst⟩
  · exact h5.elim

end
end Go.AW

/- Soundness: copying. -/
set_option linter.unusedVariables false
set_option linter.unusedSimpArgs false
namespace Go.AW
open Go

section
variable {P : Program} {X X' : Xs} {W : Nat → Prop} {pl : Pl} {w w' : World} {m : Mem}

theorem MRel.same_get {X : Xs} {m m' : Mem} (h : MRel X W pl w m) (he : ∀ k, m'.get k = m.get k) : MRel X W pl w m' :=
  ⟨fun id b hb => h.blk id b (by rw [← he id]; exact hb), h.placed, h.apart, h.xin, h.glob⟩

theorem put_same_get {m : Mem} {id : Nat} {b : Blk} (h : m.get id = some b) : ∀ k, (m.put id b).get k = m.get k := by
  intro k
  by_cases e : id = k
  · subst e; rw [Mem.get_put_same, h]
  · exact Mem.get_put_other _ _ _ _ e

theorem splR_nil (rows : List (List T)) (lo : Nat) : splR rows lo [] = rows := by simp [splR]

theorem copyA_ok (hm : MRel X W pl w m) {ts tx : TypeId} {s x : T} {vs vx : Value} (ty : TypeId) (hs : VRel X pl w s vs) (hx : VRel X pl w x vx) (K : T → Mem → Prop) (h : copyA P m ts tx s x K) :
    OpOk P X W pl w none (Builtin.copy_ #[ts, tx] ty #[vs, vx]) K := by
  unfold copyA at h
  split at h <;> try (exact h.elim)
  rename_i e hu
  split at h <;> try (exact h.elim)
  rename_i i hi
  obtain ⟨hpos, h⟩ := chk_elim h
  obtain ⟨more, news, hM, h5⟩ := moreA_ok hx h
  clear h
  split at h5 <;> try (exact h5.elim)
  rename_i id lo len
  split at h5 <;> try (exact h5.elim)
  rename_i sz rows hg
  obtain ⟨hsz, ⟨hbv, hle, hin⟩, hK⟩ := chk_elim h5
  clear h5
  obtain rfl : sz = i.size := Nat.eq_of_beq_eq_true hsz
  rw [memF_eq] at hK
  have hf : ∀ w1 : World, w1.heap = w.heap → (Builtin.firstCells i.size more.length vx).run P w1 = .ok news.toArray w1 := hM.first
  have zero : ∀ (a : Option Addr) (cap : Nat), len = 0 → OpOk P X W pl w none (Builtin.copy_ #[ts, tx] ty #[.slice a 0 cap, vx]) K := by
    intro a cap h0
    have hm0 : more = [] := List.length_eq_zero_iff.1 (by omega)
    subst hm0
    have hn : news = [] := by have := hM.len; simpa using this
    subst hn
    have hmany := hM.many w
    have hfw := hf w rfl
    simp only [List.length_nil] at hmany hfw
    refine ⟨.int .i64 ((([] : List (List T)).length : Nat) : Int), _, _, w, ?_, hK, ?_⟩
    · simp only [Builtin.copy_]
      simp [run_underlying hu, hmany, run_sizeOfI hi, hfw]
      cases a <;> simp [storeCells, goInt]
    · rw [splR_nil]
      refine ⟨X, pl, .refl _ _, .refl _ _, fun _ _ h => h, .refl _ _, hm.same_get (put_same_get hg), ?_, fun _ _ h => .inl h⟩
      exact .lit _
  cases hs with
  | srefn _ hp => exact zero none 0 rfl
  | srefz _ _ b sz' a hp => exact zero a 0 rfl
  | sref _ _ _ b sz' cap hp hcap hroom =>
    replace hp := own_pl hm hg hp
    obtain ⟨rfl, cs, ee, fr, hh, huf, hlen, hr⟩ := own_get hm hg hp
    have h1 : (lo + len) * i.size ≤ rows.length * i.size := Nat.mul_le_mul_right _ hin
    have h2 : lo * i.size + more.length * i.size ≤ (lo + len) * i.size := by rw [← Nat.add_mul]; exact Nat.mul_le_mul_right _ (by omega)
    have hnl := hM.len
    have hst := run_storeCells_u (P := P) b (lo * i.size) ee fr news 0 cs w hh huf (by omega) (rows_one hM.len hM.rows)
    simp only [Nat.add_zero] at hst
    have hmin : Nat.min more.length len = more.length := Nat.min_eq_left hle
    refine ⟨.int .i64 (more.length : Nat), _, _, w.setRow b (cs.toList.take (lo * i.size) ++ news ++ cs.toList.drop (lo * i.size + news.length)).toArray, ?_, hK, ?_⟩
    · simp only [Builtin.copy_]
      simp [run_underlying hu, hM.many w, hmin, run_sizeOfI hi, hf w rfl, hst, goInt]
    · refine StepOk.store hm hp hh huf (by simp; omega) ?_ ?_ none (.lit _)
      · have : (splR rows lo more).length = rows.length := by simp [splR]; omega
        rw [this]; simp; omega
      · have htl : (rows.take lo).length = lo := by simp; omega
        have hc1 : (cs.toList.take (lo * i.size)).length = (rows.take lo).length * i.size := by rw [htl]; simp; omega
        have ha := cells_append (X := X) (pl := pl) (w := w) (c3 := []) hc1 (r1 := rows.take lo) (r2 := more) (c2 := news) (by
          intro k row hk
          rw [List.getElem?_take] at hk
          split at hk
          · rename_i hkl
            obtain ⟨g1, g2⟩ := hr k row hk
            refine ⟨g1, fun j t ht => ?_⟩
            obtain ⟨v, hv, hvr⟩ := g2 j t ht
            refine ⟨v, ?_, hvr⟩
            have hj : j < i.size := by rw [← g1]; exact (List.getElem?_eq_some_iff.1 ht).1
            have : k * i.size + i.size ≤ lo * i.size := by rw [← Nat.succ_mul]; exact Nat.mul_le_mul_right _ hkl
            rw [List.getElem?_toArray, List.getElem?_take, if_pos (by omega), Array.getElem?_toList]
            exact hv
          · cases hk) hM.len (rowsIn_vrel hM.rows (rows_untok hbv))
        rw [List.append_nil] at ha
        have hdl : (rows.drop (lo + more.length)).length * i.size = rows.length * i.size - (lo + more.length) * i.size := by rw [List.length_drop, Nat.sub_mul]
        have hb := cells_append (X := X) (pl := pl) (w := w) (r1 := rows.take lo ++ more) (c1 := cs.toList.take (lo * i.size) ++ news)
          (r2 := rows.drop (lo + more.length)) (c2 := (cs.toList.drop (lo * i.size + news.length)).take ((rows.drop (lo + more.length)).length * i.size)) (c3 := (cs.toList.drop (lo * i.size + news.length)).drop ((rows.drop (lo + more.length)).length * i.size))
          (by rw [List.length_append, List.length_append, hc1, hnl, htl, Nat.add_mul]) ha (by
            rw [hdl, Nat.add_mul]; simp; omega) (by
            intro k row hk
            rw [List.getElem?_drop] at hk
            obtain ⟨g1, g2⟩ := hr _ row hk
            refine ⟨g1, fun j t ht => ?_⟩
            obtain ⟨v, hv, hvr⟩ := g2 j t ht
            refine ⟨v, ?_, hvr⟩
            have hj : j < i.size := by rw [← g1]; exact (List.getElem?_eq_some_iff.1 ht).1
            have hkl : k < (rows.drop (lo + more.length)).length := by
              have := (List.getElem?_eq_some_iff.1 hk).1
              simp; omega
            have hkm : k * i.size + i.size ≤ (rows.drop (lo + more.length)).length * i.size := by rw [← Nat.succ_mul]; exact Nat.mul_le_mul_right _ hkl
            rw [List.getElem?_toArray, List.getElem?_take, if_pos (by omega), List.getElem?_drop, Array.getElem?_toList, ← hv]
            congr 1
            rw [hnl, Nat.add_mul, Nat.add_mul]; omega)
        have e1 : cs.toList.take (lo * i.size) ++ news ++ cs.toList.drop (lo * i.size + news.length) = cs.toList.take (lo * i.size) ++ news ++ (cs.toList.drop (lo * i.size + news.length)).take ((rows.drop (lo + more.length)).length * i.size) ++ (cs.toList.drop (lo * i.size + news.length)).drop ((rows.drop (lo + more.length)).length * i.size) := by
          rw [List.append_assoc (cs.toList.take (lo * i.size) ++ news), List.take_append_drop]
        rw [e1]
        exact hb
end
end Go.AW
