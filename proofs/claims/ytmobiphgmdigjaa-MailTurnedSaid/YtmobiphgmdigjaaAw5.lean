import Derived.Test.YtmobiphgmdigjaaAw4
/- What steps that change memory leave true. -/
set_option linter.unusedVariables false
set_option linter.unusedSimpArgs false
namespace Go.AW
open Go

def upd (pl : Pl) (id : Nat) (l : Loc) : Pl := fun i => if i = id then some l else pl i
theorem upd_same (pl : Pl) (id : Nat) (l : Loc) : upd pl id l id = some l := by simp [upd]
theorem upd_other (pl : Pl) {id i : Nat} (l : Loc) (h : i ≠ id) : upd pl id l i = pl i := by simp [upd, h]

theorem roomy_of_heap {w w' : World} {b n : Nat} (h : w'.heap[b]? = w.heap[b]?) (hr : roomy w b n) : roomy w' b n := by
  obtain ⟨cs, e, fr, hh, hn⟩ := hr
  exact ⟨cs, e, fr, h.trans hh, hn⟩

theorem unfrozen_of_heap {w w' : World} {b n : Nat} (h : w'.heap[b]? = w.heap[b]?) (hr : unfrozen w b n) : unfrozen w' b n := by
  refine ⟨?_, fun cs e lo hi hh => hr.2 cs e lo hi (h ▸ hh)⟩
  intro off ho
  have := hr.1 off ho
  simpa [World.frozen?, h] using this

theorem BlkOk.mono {X X' : Xs} {pl pl' : Pl} {w w' : World} {l : Loc} {blk : Blk} (hx : XMono X X' w w') (hp : PMono pl pl' w w')
    (hb : ∀ b, l.blk = some b → w'.heap[b]? = w.heap[b]?) (h : BlkOk X pl w l blk) : BlkOk X' pl' w' l blk := by
  cases blk with
  | own sz rows =>
    rcases h with h | ⟨b, rfl, cs, e, fr, hh, hu, hl, hr⟩
    · exact .inl h
    · have hbb := hb b rfl
      refine .inr ⟨b, rfl, cs, e, fr, hbb.trans hh, unfrozen_of_heap hbb hu, hl, fun i row hrow => ⟨(hr i row hrow).1, fun j t ht => ?_⟩⟩
      obtain ⟨v, hv, hvr⟩ := (hr i row hrow).2 j t ht
      exact ⟨v, hv, hvr.mono hx hp⟩
  | tok sz n =>
    rcases h with h | ⟨b, cap, rfl, hn, cs, e, fr, hh, hu, hc⟩
    · exact .inl h
    · have hbb := hb b rfl
      exact .inr ⟨b, cap, rfl, hn, cs, e, fr, hbb.trans hh, unfrozen_of_heap hbb hu, hc⟩
  | iter s pos =>
    obtain ⟨b, rfl, hh⟩ := h
    exact ⟨b, rfl, (hb b rfl).trans hh⟩
  | map kv =>
    obtain ⟨b, rfl, es, ck, hh, hk⟩ := h
    exact ⟨b, rfl, es, ck, (hb b rfl).trans hh, hk⟩

section
variable {P : Program} {X : Xs} {W : Nat → Prop} {pl : Pl} {w : World} {m : Mem}

theorem MRel.heap_alloc (h : MRel X W pl w m) (o : Obj) : ∀ id l b, pl id = some l → l.blk = some b → (w.alloc o).heap[b]? = w.heap[b]? :=
  fun id l b hl hb => heap_alloc_old w o (h.placed id l b hl hb).2

theorem MRel.xmono_alloc (h : MRel X W pl w m) (o : Obj) : XMono X X w (w.alloc o) :=
  fun b off hx => ⟨hx, World.cell?_alloc_lt _ _ _ (h.xin b off hx).1⟩

theorem MRel.pmono_alloc (h : MRel X W pl w m) (o : Obj) {id : Nat} (l : Loc) (hid : pl id = none) : PMono pl (upd pl id l) w (w.alloc o) := by
  intro i li hi
  have hne : i ≠ id := fun e => by rw [e, hid] at hi; cases hi
  refine ⟨⟨li, by rw [upd_other pl l hne]; exact hi, li.le_refl⟩, ?_⟩
  rintro b sz rfl _ n hn
  exact roomy_of_heap (h.heap_alloc o i _ b hi rfl) hn

/-- A new block for a new id. -/
theorem MRel.alloc (h : MRel X W pl w m) {id : Nat} (hid : pl id = none) (hW : ∀ b, w.heap.size ≤ b → W b) (o : Obj) (l : Loc) (blk : Blk)
    (hl : l.blk = some w.heap.size) (hb : BlkOk X (upd pl id l) (w.alloc o) l blk) :
    MRel X W (upd pl id l) (w.alloc o) (m.put id blk) := by
  have hx := h.xmono_alloc o
  have hp := h.pmono_alloc o l hid
  constructor
  · intro i b hi
    by_cases e : i = id
    · subst e
      rw [Mem.get_put_same] at hi
      obtain rfl := Option.some.inj hi
      exact ⟨l, upd_same pl i l, hb⟩
    · rw [Mem.get_put_other _ _ _ _ (Ne.symm e)] at hi
      obtain ⟨li, hli, hbi⟩ := h.blk i b hi
      exact ⟨li, by rw [upd_other pl l e]; exact hli, hbi.mono hx hp fun b hbb => h.heap_alloc o i li b hli hbb⟩
  · intro i li b hi hbb
    by_cases e : i = id
    · subst e
      rw [upd_same] at hi
      obtain rfl := Option.some.inj hi
      rw [hl] at hbb
      obtain rfl := Option.some.inj hbb
      exact ⟨hW _ (Nat.le_refl _), by simp⟩
    · rw [upd_other pl l e] at hi
      obtain ⟨h1, h2⟩ := h.placed i li b hi hbb
      exact ⟨h1, by simp; omega⟩
  · intro i j li lj b hi hj hbi hbj
    by_cases e : i = id <;> by_cases e' : j = id
    · rw [e, e']
    · subst e
      rw [upd_same] at hi
      obtain rfl := Option.some.inj hi
      rw [upd_other pl l e'] at hj
      rw [hl] at hbi
      obtain rfl := Option.some.inj hbi
      have := (h.placed j lj _ hj hbj).2
      omega
    · subst e'
      rw [upd_same] at hj
      obtain rfl := Option.some.inj hj
      rw [upd_other pl l e] at hi
      rw [hl] at hbj
      obtain rfl := Option.some.inj hbj
      have := (h.placed i li _ hi hbi).2
      omega
    · rw [upd_other pl l e] at hi
      rw [upd_other pl l e'] at hj
      exact h.apart i j li lj b hi hj hbi hbj
  · intro b off hxb
    obtain ⟨h1, h2⟩ := h.xin b off hxb
    refine ⟨by simp; omega, ?_⟩
    intro i li hi
    by_cases e : i = id
    · subst e
      rw [upd_same] at hi
      obtain rfl := Option.some.inj hi
      cases l <;> simp only [Loc.blk, Option.some.injEq, reduceCtorEq] at hl <;> simp only [Loc.free]
      · omega
      · intro e2; omega
      · omega
    · rw [upd_other pl l e] at hi
      exact h2 i li hi
  · exact h.glob.mono hx

/-- What a step leaves. -/
def StepOk (X : Xs) (W : Nat → Prop) (pl : Pl) (w : World) (id : Option Nat) (m' : Mem) (t : T) (v : Value) (w' : World) : Prop :=
  ∃ X' pl', XMono X X' w w' ∧ PMono pl pl' w w' ∧ (∀ i, id ≠ some i → pl i = none → pl' i = none) ∧ Ext W w w' ∧ MRel X' W pl' w' m' ∧ VRel X' pl' w' t v ∧
    (∀ b off, X' b off → X b off ∨ W b)

theorem StepOk.same (hm : MRel X W pl w m) (id : Option Nat) {t : T} {v : Value} (h : VRel X pl w t v) : StepOk X W pl w id m t v w :=
  ⟨X, pl, .refl _ _, .refl _ _, fun _ _ h => h, .refl _ _, hm, h, fun _ _ h => .inl h⟩

theorem Ext.alloc (W : Nat → Prop) (w : World) (o : Obj) : Ext W w (w.alloc o) :=
  ⟨by simp, rfl, rfl, rfl, fun b hb _ => heap_alloc_old w o hb⟩

theorem unfrozen_alloc (w : World) (cs : Array Value) (e : TypeId) (n : Nat) : unfrozen (w.alloc (.cells cs e)) w.heap.size n := by
  refine ⟨fun off _ => by simp, fun cs2 e2 lo hi hh => ?_⟩
  rw [heap_alloc_new] at hh
  injection hh with hh
  injection hh with h1 h2 h3
  injection h3 with h3 h4
  omega

/-- A new block of an id's own. -/
theorem StepOk.own (hm : MRel X W pl w m) {id : Nat} (hid : pl id = none) (hW : ∀ b, w.heap.size ≤ b → W b) (cs : Array Value) (e : TypeId) (sz : Nat) (rows : List (List T))
    (hl : rows.length * sz ≤ cs.size) (hr : ∀ (i : Nat) (row : List T), rows[i]? = some row → row.length = sz ∧ ∀ (j : Nat) (t : T), row[j]? = some t → ∃ v, cs[i * sz + j]? = some v ∧ VRel X pl w t v)
    {t : T} {v : Value} (hv : VRel X (upd pl id (.own w.heap.size sz)) (w.alloc (.cells cs e)) t v) :
    StepOk X W pl w (some id) (m.put id (.own sz rows)) t v (w.alloc (.cells cs e)) := by
  have hx := hm.xmono_alloc (.cells cs e)
  have hp := hm.pmono_alloc (.cells cs e) (.own w.heap.size sz) hid
  refine ⟨X, upd pl id (.own w.heap.size sz), hx, hp, fun i hi hn => by rw [upd_other _ _ (fun e => hi (by rw [e]))]; exact hn, .alloc W w _, hm.alloc hid hW _ _ _ rfl ?_, hv, fun _ _ h => .inl h⟩
  refine .inr ⟨w.heap.size, rfl, cs, e, (0, 0), heap_alloc_new w _, unfrozen_alloc w cs e _, hl, fun i row hrow => ⟨(hr i row hrow).1, fun j t ht => ?_⟩⟩
  obtain ⟨v, hv, hvr⟩ := (hr i row hrow).2 j t ht
  exact ⟨v, hv, hvr.mono hx hp⟩

theorem cell_one {t : T} {u : Value} (h : VRel X pl w t u) (ho : cellOk t = true) : u.oneCell' = true := by
  cases h with
  | dead => simp [cellOk] at ho
  | lit v => exact ho
  | sl tok sz rows v h ht => cases h; rfl
  | agg => simp [cellOk] at ho
  | tup => simp [cellOk] at ho
  | clo => rfl
  | ifc => rfl
  | ptr => rfl
  | srefn => rfl
  | sref => rfl
  | srefz => rfl
  | vp => rfl
  | itr => rfl
  | mref => rfl

theorem oneCell_cells {v : Value} (h : v.oneCell' = true) : v.cells = #[v] := by cases v <;> first | rfl | (simp [Value.oneCell'] at h)

/-- The cells of a value, related. -/
theorem cells_rel {x : T} {v : Value} (h : VRel X pl w x v) (hc : (cellsT x).all cellOk = true) :
    (cellsT x).length = v.cells.size ∧ (∀ u ∈ v.cells.toList, u.oneCell' = true) ∧ ∀ (j : Nat) (t : T), (cellsT x)[j]? = some t → ∃ u, v.cells[j]? = some u ∧ VRel X pl w t u := by
  by_cases hx : ∃ ts, x = .agg ts
  · obtain ⟨ts, rfl⟩ := hx
    obtain ⟨vs, rfl, hl, hh⟩ := h.agg_inv
    simp only [cellsT] at hc ⊢
    refine ⟨by simpa [Value.cells] using hl, ?_, ?_⟩
    · intro u hu
      simp only [Value.cells] at hu
      obtain ⟨i, hi, rfl⟩ := List.getElem_of_mem hu
      have hi' : i < vs.length := by simpa using hi
      have hti : i < ts.length := by omega
      exact cell_one (hh i ts[i] vs[i] (by simp [hti]) (by simp [hi'])) (List.all_eq_true.1 hc _ (List.getElem_mem hti))
    · intro j t ht
      have hj : j < ts.length := (List.getElem?_eq_some_iff.1 ht).1
      have hj' : j < vs.length := by omega
      exact ⟨vs[j], by simp [Value.cells, hj'], hh j t vs[j] ht (by simp [hj'])⟩
  · have hcx : cellsT x = [x] := by
      cases x <;> first | rfl | (exfalso; exact hx ⟨_, rfl⟩)
    rw [hcx] at hc ⊢
    have ho : cellOk x = true := by simpa using hc
    have hv := cell_one h ho
    rw [oneCell_cells hv]
    refine ⟨rfl, by simpa using hv, ?_⟩
    intro j t ht
    cases j with
    | zero => simp at ht; subst ht; exact ⟨v, rfl, h⟩
    | succ j => simp at ht

/-- The same, by value. -/
theorem VRel.bv {x : T} {v : Value} (h : VRel X pl w x v) (hc : bvOk x = true) : BRel X w (untok x) v := by
  cases h with
  | lit v => exact .lit v
  | sl tok sz rows v h ht =>
    cases h with
    | sl _ _ _ a cap cs h1 h2 h3 h4 => exact .sl none sz rows a cap cs h1 h2 h3 h4
  | ifc t x v h => exact .ifc t x v h
  | _ => simp [bvOk] at hc

/-- By-value data may be held as a value. -/
theorem BRel.vrel {x : T} {v : Value} (h : BRel X w x v) : VRel X pl w (untok x) v := by
  cases h with
  | lit v => exact .lit v
  | sl tok sz rows a cap cs h1 h2 h3 h4 => exact .sl none sz rows _ (.sl none sz rows a cap cs h1 h2 h3 h4) (by simp)
  | agg ts vs hl h => exact .dead _
  | ifc t x v h => exact .ifc t x v h

end
end Go.AW
