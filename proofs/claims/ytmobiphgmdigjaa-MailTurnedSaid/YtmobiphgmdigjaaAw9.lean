import Derived.Test.YtmobiphgmdigjaaAw8
/- Soundness: slices that grow. -/
set_option linter.unusedVariables false
set_option linter.unusedSimpArgs false
namespace Go.AW
open Go

section
variable {P : Program} {X X' : Xs} {W : Nat → Prop} {pl : Pl} {w w' : World} {m : Mem}

/-- One id's block changes. -/
theorem MRel.update (hm : MRel X W pl w m) {id : Nat} {l : Loc} {blk : Blk} (hx : XMono X X' w w') (hp : PMono pl (upd pl id l) w w')
    (hh : ∀ i li b, i ≠ id → pl i = some li → li.blk = some b → w'.heap[b]? = w.heap[b]?) (hs : w.heap.size ≤ w'.heap.size)
    (hb : BlkOk X' (upd pl id l) w' l blk) (hl : ∀ b, l.blk = some b → W b ∧ b < w'.heap.size ∧ ∀ i li, i ≠ id → pl i = some li → li.blk ≠ some b)
    (hX : ∀ b off, X' b off → b < w'.heap.size ∧ l.free b off ∧ ∀ i li, i ≠ id → pl i = some li → li.free b off) :
    MRel X' W (upd pl id l) w' (m.put id blk) := by
  constructor
  · intro i b hi
    by_cases e : i = id
    · subst e
      rw [Mem.get_put_same] at hi
      obtain rfl := Option.some.inj hi
      exact ⟨l, upd_same pl i l, hb⟩
    · rw [Mem.get_put_other _ _ _ _ (Ne.symm e)] at hi
      obtain ⟨li, hli, hbi⟩ := hm.blk i b hi
      exact ⟨li, by rw [upd_other pl l e]; exact hli, hbi.mono hx hp fun b hbb => hh i li b e hli hbb⟩
  · intro i li b hi hbb
    by_cases e : i = id
    · subst e
      rw [upd_same] at hi
      obtain rfl := Option.some.inj hi
      exact ⟨(hl b hbb).1, (hl b hbb).2.1⟩
    · rw [upd_other pl l e] at hi
      obtain ⟨h1, h2⟩ := hm.placed i li b hi hbb
      exact ⟨h1, by omega⟩
  · intro i j li lj b hi hj hbi hbj
    by_cases e : i = id <;> by_cases e' : j = id
    · rw [e, e']
    · subst e
      rw [upd_same] at hi
      obtain rfl := Option.some.inj hi
      rw [upd_other pl l e'] at hj
      exact absurd hbj ((hl b hbi).2.2 j lj e' hj)
    · subst e'
      rw [upd_same] at hj
      obtain rfl := Option.some.inj hj
      rw [upd_other pl l e] at hi
      exact absurd hbi ((hl b hbj).2.2 i li e hi)
    · rw [upd_other pl l e] at hi
      rw [upd_other pl l e'] at hj
      exact hm.apart i j li lj b hi hj hbi hbj
  · intro b off hxb
    obtain ⟨h1, h2, h3⟩ := hX b off hxb
    refine ⟨h1, ?_⟩
    intro i li hi
    by_cases e : i = id
    · subst e
      rw [upd_same] at hi
      obtain rfl := Option.some.inj hi
      exact h2
    · rw [upd_other pl l e] at hi
      exact h3 i li e hi
  · exact hm.glob.mono hx

/-- Rows that lie in a row of cells. -/
def RowsIn (X : Xs) (w : World) (cs : Array Value) (sz : Nat) (rows : List (List T)) : Prop :=
  ∀ (i : Nat) (row : List T), rows[i]? = some row → row.length = sz ∧ ∀ (j : Nat) (t : T), row[j]? = some t → ∃ v, cs[i * sz + j]? = some v ∧ BRel X w t v ∧ v.oneCell' = true

theorem free_of_new {l : Loc} {b off n : Nat} (hl : ∀ b', l.blk = some b' → b' < n) (hb : n ≤ b) : l.free b off := by
  cases l <;> simp only [Loc.free, Loc.blk] at *
  · have := hl _ rfl; omega
  · intro e; have := hl _ rfl; omega
  · have := hl _ rfl; omega

/-- What a slice of rows in a block is. -/
theorem brel_rows {b : Nat} {cs : Array Value} {e : TypeId} {fr : Nat × Nat} {sz cap : Nat} {rows : List (List T)} {tok : Option Nat} (hh : w.heap[b]? = some (.cells cs e fr)) (hc : rows.length ≤ cap)
    (hX : ∀ off, off < rows.length * sz → X b off) (hr : RowsIn X w cs sz rows) : BRel X w (.sl tok sz rows) (.slice (some ⟨b, 0, none⟩) rows.length cap) := by
  refine .sl tok sz rows (some ⟨b, 0, none⟩) cap (fun i j => (cs[i * sz + j]?).getD undef) hc (fun i row h => (hr i row h).1) ?_ ?_
  · intro i row h
    have hi : i < rows.length := (List.getElem?_eq_some_iff.1 h).1
    refine ⟨b, 0, rfl, fun j hj => ?_⟩
    have h1 : i * sz + sz ≤ rows.length * sz := by rw [← Nat.succ_mul]; exact Nat.mul_le_mul_right _ hi
    have hjr : j < row.length := by rw [(hr i row h).1]; exact hj
    obtain ⟨v, hv, _, ho⟩ := (hr i row h).2 j row[j] (by simp [hjr])
    refine ⟨hX _ (by omega), ?_, ?_⟩
    · rw [cell_of_row w b _ cs e fr hh]
      simp [hv]
    · simp [hv, ho]
  · intro i row j t h ht
    obtain ⟨v, hv, hb, _⟩ := (hr i row h).2 j t ht
    simp [hv]; exact hb

/-- A world with one block of cells more. -/
structure NewBlock (w w' : World) (cs : Array Value) (e : TypeId) : Prop where
  new : ∃ fr, w'.heap[w.heap.size]? = some (.cells cs e fr)
  unf : unfrozen w' w.heap.size cs.size
  old : ∀ b, b < w.heap.size → w'.heap[b]? = w.heap[b]?
  size : w'.heap.size = w.heap.size + 1
  os : w'.os = w.os
  output : w'.output = w.output
  tape : w'.tape = w.tape

theorem NewBlock.alloc (w : World) (cs : Array Value) (e : TypeId) : NewBlock w (w.alloc (.cells cs e)) cs e :=
  ⟨⟨_, heap_alloc_new w _⟩, unfrozen_alloc w cs e _, fun b hb => heap_alloc_old w _ hb, by simp, rfl, rfl, rfl⟩

theorem NewBlock.ext {cs : Array Value} {e : TypeId} (h : NewBlock w w' cs e) (W : Nat → Prop) : Ext W w w' :=
  ⟨by rw [h.size]; omega, h.os, h.output, h.tape, fun b hb _ => h.old b hb⟩

/-- A new row, with a token. -/
theorem StepOk.tok (hm : MRel X W pl w m) {id : Nat} (hW : ∀ b, w.heap.size ≤ b → W b) (cs : Array Value) (e : TypeId) (hnb : NewBlock w w' cs e) (sz cap : Nat) (rows : List (List T))
    (hcs : cs.size = cap * sz) (hn : rows.length ≤ cap) (hr : RowsIn X w cs sz rows) (hid : ∀ l, pl id = some l → l.le (.tok w.heap.size sz rows.length cap) ∧ ∀ b sz, l ≠ .own b sz) :
    StepOk X W pl w (some id) (m.put id (.tok sz rows.length)) (.sl (some id) sz rows) (.slice (some ⟨w.heap.size, 0, none⟩) rows.length cap) w' := by
  obtain ⟨fr, hnew⟩ := hnb.new
  let X' : Xs := fun b off => X b off ∨ (b = w.heap.size ∧ off < rows.length * sz)
  have hx : XMono X X' w w' := fun b off h => ⟨.inl h, World.cell?_of_block (hnb.old b (hm.xin b off h).1)⟩
  have hp : PMono pl (upd pl id (.tok w.heap.size sz rows.length cap)) w w' := by
    intro i li hi
    refine ⟨?_, ?_⟩
    · by_cases e2 : i = id
      · subst e2
        exact ⟨_, upd_same _ _ _, (hid li hi).1⟩
      · exact ⟨li, by rw [upd_other _ _ e2]; exact hi, li.le_refl⟩
    · rintro b sz2 rfl _ n hn2
      exact roomy_of_heap (hnb.old b (hm.placed i _ b hi rfl).2) hn2
  have hother : ∀ i li, i ≠ id → pl i = some li → ∀ b', li.blk = some b' → b' < w.heap.size := fun i li _ hi b' hb' => (hm.placed i li b' hi hb').2
  have hrX : RowsIn X' w' cs sz rows := fun i row h => ⟨(hr i row h).1, fun j t ht => by
    obtain ⟨v, hv, hb, ho⟩ := (hr i row h).2 j t ht
    exact ⟨v, hv, hb.mono hx, ho⟩⟩
  refine ⟨X', upd pl id (.tok w.heap.size sz rows.length cap), hx, hp, fun i hi hn => by rw [upd_other _ _ (fun e => hi (by rw [e]))]; exact hn, hnb.ext W, ?_, ?_, ?_⟩
  · refine hm.update hx hp (fun i li b hi hl hb => hnb.old b (hm.placed i li b hl hb).2) (by rw [hnb.size]; omega) ?_ ?_ ?_
    · exact .inr ⟨_, cap, rfl, hn, cs, e, fr, hnew, hnb.unf, hcs⟩
    · intro b hb
      simp only [Loc.blk, Option.some.injEq] at hb
      subst hb
      refine ⟨hW _ (Nat.le_refl _), by rw [hnb.size]; omega, fun i li hi hli hb => ?_⟩
      have := hother i li hi hli _ hb
      omega
    · intro b off hxb
      rcases hxb with h | ⟨rfl, h⟩
      · obtain ⟨h1, h2⟩ := hm.xin b off h
        refine ⟨by rw [hnb.size]; omega, ?_, fun i li _ hi => h2 i li hi⟩
        simp only [Loc.free]
        intro e2; omega
      · exact ⟨by rw [hnb.size]; omega, fun _ => h, fun i li hi hli => free_of_new (hother i li hi hli) (Nat.le_refl _)⟩
  · refine .sl _ _ _ _ (brel_rows hnew hn (fun off ho => .inr ⟨rfl, ho⟩) hrX) ?_
    intro id' e2
    obtain rfl := Option.some.inj e2
    exact ⟨_, upd_same _ _ _, rfl, Nat.le_refl _, fun _ => rfl⟩
  · intro b off h
    rcases h with h | ⟨rfl, _⟩
    · exact .inl h
    · exact .inr (hW _ (Nat.le_refl _))

/-- A row goes on in its own place. -/
theorem StepOk.tokRoom (hm : MRel X W pl w m) {id b sz n cap : Nat} {cs cs' : Array Value} {e : TypeId} {fr : Nat × Nat} (hp0 : pl id = some (.tok b sz n cap)) (hh : w.heap[b]? = some (.cells cs e fr))
    (hu : unfrozen w b cs.size) (hcs : cs.size = cap * sz) (hs : cs'.size = cs.size) (hkeep : ∀ k, k < n * sz → cs'[k]? = cs[k]?) (rows : List (List T)) (hn : n ≤ rows.length) (hc : rows.length ≤ cap)
    (hr : RowsIn X w cs' sz rows) :
    StepOk X W pl w (some id) (m.put id (.tok sz rows.length)) (.sl (some id) sz rows) (.slice (some ⟨b, 0, none⟩) rows.length cap) (w.setRow b cs') := by
  let X' : Xs := fun b' off => X b' off ∨ (b' = b ∧ off < rows.length * sz)
  have hnn : n * sz ≤ rows.length * sz := Nat.mul_le_mul_right _ hn
  have hx : XMono X X' w (w.setRow b cs') := by
    intro b' off h
    refine ⟨.inl h, ?_⟩
    by_cases e2 : b' = b
    · subst e2
      have ho : off < n * sz := (hm.xin b' off h).2 id _ hp0 rfl
      rw [cell_setRow_same w b' off cs cs' e fr hh, cell_of_row w b' off cs e fr hh]
      exact hkeep off ho
    · exact cell_setRow_other w b cs' ⟨b', off, none⟩ e2
  have hp : PMono pl (upd pl id (.tok b sz rows.length cap)) w (w.setRow b cs') := by
    intro i li hi
    refine ⟨?_, ?_⟩
    · by_cases e2 : i = id
      · subst e2
        rw [hp0] at hi
        obtain rfl := Option.some.inj hi
        refine ⟨_, upd_same _ _ _, ?_⟩
        simp only [Loc.le]
        rcases Nat.lt_or_eq_of_le hn with h | h
        · exact .inr (.inr ⟨_, _, _, rfl, h⟩)
        · exact .inr (.inl (by rw [h]))
      · exact ⟨li, by rw [upd_other _ _ e2]; exact hi, li.le_refl⟩
    · exact fun b2 sz2 _ _ n2 hr2 => roomy_setRow hh (Nat.le_of_eq hs.symm) hr2
  have hne : ∀ i li, i ≠ id → pl i = some li → li.blk ≠ some b := fun i li hi hli hb => hi (hm.apart i id li _ b hli hp0 hb rfl)
  have hrX : RowsIn X' (w.setRow b cs') cs' sz rows := fun i row h => ⟨(hr i row h).1, fun j t ht => by
    obtain ⟨v, hv, hb, ho⟩ := (hr i row h).2 j t ht
    exact ⟨v, hv, hb.mono hx, ho⟩⟩
  have hh' := setRow_heap w b cs cs' e fr hh
  have hpl := hm.placed id _ b hp0 rfl
  refine ⟨X', upd pl id (.tok b sz rows.length cap), hx, hp, fun i hi hn => by rw [upd_other _ _ (fun e => hi (by rw [e]))]; exact hn, ⟨by simp, rfl, rfl, rfl, fun b' hb hW => ?_⟩, ?_, ?_, ?_⟩
  · refine setRow_other w b b' cs' fun e2 => hW ?_
    subst e2; exact hpl.1
  · refine hm.update hx hp (fun i li b' hi hl hb => setRow_other w b b' cs' fun e2 => ?_) (by simp) ?_ ?_ ?_
    · subst e2; exact hne i li hi hl hb
    · exact .inr ⟨b, cap, rfl, hc, cs', e, fr, hh', by rw [hs]; exact unfrozen_setRow hh hu, by rw [hs]; exact hcs⟩
    · intro b' hb
      simp only [Loc.blk, Option.some.injEq] at hb
      subst hb
      exact ⟨hpl.1, by simpa using hpl.2, hne⟩
    · intro b' off hxb
      rcases hxb with h | ⟨rfl, h⟩
      · obtain ⟨h1, h2⟩ := hm.xin b' off h
        refine ⟨by simpa using h1, ?_, fun i li _ hi => h2 i li hi⟩
        simp only [Loc.free]
        intro e2
        have := h2 id _ hp0 e2.symm.symm
        omega
      · refine ⟨by simpa using hpl.2, fun _ => h, fun i li hi hli => ?_⟩
        have := hne i li hi hli
        cases li <;> simp only [Loc.free, Loc.blk, ne_eq, Option.some.injEq] at *
        · exact fun e2 => this e2.symm
        · exact fun e2 => absurd e2.symm this
        · exact fun e2 => this e2.symm
  · refine .sl _ _ _ _ (brel_rows hh' hc (fun off ho => .inr ⟨rfl, ho⟩) hrX) ?_
    intro id' e2
    obtain rfl := Option.some.inj e2
    exact ⟨_, upd_same _ _ _, rfl, Nat.le_refl _, fun _ => rfl⟩
  · intro b' off h
    rcases h with h | ⟨rfl, _⟩
    · exact .inl h
    · exact .inr hpl.1

/-- An empty slice that is nil, with a token. -/
theorem StepOk.tokn (hm : MRel X W pl w m) {id : Nat} (sz : Nat) (hid : pl id = none ∨ pl id = some (.tokn sz)) :
    StepOk X W pl w (some id) (m.put id (.tok sz 0)) (.sl (some id) sz []) (.slice none 0 0) w := by
  have hp : PMono pl (upd pl id (.tokn sz)) w w := by
    intro i li hi
    refine ⟨?_, fun _ _ _ _ _ h => h⟩
    by_cases e2 : i = id
    · subst e2
      rcases hid with h | h
      · rw [h] at hi; cases hi
      · rw [h] at hi
        obtain rfl := Option.some.inj hi
        exact ⟨_, upd_same _ _ _, .inr (.inl rfl)⟩
    · exact ⟨li, by rw [upd_other _ _ e2]; exact hi, li.le_refl⟩
  refine ⟨X, upd pl id (.tokn sz), .refl _ _, hp, fun i hi hn => by rw [upd_other _ _ (fun e => hi (by rw [e]))]; exact hn, .refl _ _, ?_, ?_, fun _ _ h => .inl h⟩
  · refine hm.update (.refl _ _) hp (fun _ _ _ _ _ _ => rfl) (Nat.le_refl _) (.inl ⟨rfl, rfl⟩) (by simp [Loc.blk]) ?_
    intro b off h
    obtain ⟨h1, h2⟩ := hm.xin b off h
    exact ⟨h1, trivial, fun i li _ hi => h2 i li hi⟩
  · refine .sl _ _ _ _ ?_ ?_
    · exact .sl (some id) sz [] none 0 (fun _ _ => undef) (Nat.le_refl _) (by simp) (by simp) (by simp)
    · intro id' e2
      obtain rfl := Option.some.inj e2
      exact ⟨_, upd_same _ _ _, rfl, rfl, rfl⟩

theorem StepOk.drew {id : Option Nat} {m' : Mem} {t : T} {v : Value} (h : StepOk X W pl w.drew id m' t v w') : StepOk X W pl w id m' t v w' := by
  obtain ⟨X', pl', hx, hp, hn, he, hm, hv, hX⟩ := h
  exact ⟨X', pl', hx, hp, hn, ⟨he.size, he.os, he.output, he.tape, he.keep⟩, hm, hv, hX⟩

theorem MRel.drew (hm : MRel X W pl w m) : MRel X W pl w.drew m := by
  have hp : PMono pl pl w w.drew := .refl _ _
  exact ⟨fun id b h => by obtain ⟨l, hl, hb⟩ := hm.blk id b h; exact ⟨l, hl, hb.mono (w' := w.drew) (show XMono X X w w.drew from fun _ _ h => ⟨h, rfl⟩) hp fun _ _ => rfl⟩, hm.placed, hm.apart, hm.xin, hm.glob⟩

end
end Go.AW
