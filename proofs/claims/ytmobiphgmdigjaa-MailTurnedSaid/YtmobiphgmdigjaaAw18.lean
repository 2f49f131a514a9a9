import Derived.Test.YtmobiphgmdigjaaAw17
/- What an operation hangs on. -/
set_option linter.unusedVariables false
set_option linter.unusedSimpArgs false
namespace Go.AW
open Go

/-- What is gone on with is one value, whatever is asked of it. -/
def Fix (F : (T → Prop) → Prop) : Prop := ∀ K, F K → ∃ v, K v ∧ ∀ K2 : T → Prop, K2 v → F K2

section
variable {P : Program}

theorem Fix.force (t : T) : Fix (forceT t) := by
  intro K h
  rw [forceT_eq] at h
  exact ⟨t, h, fun K2 h2 => by rw [forceT_eq]; exact h2⟩
theorem Fix.pick (c a b : T) : Fix (pickA c a b) := by
  intro K h
  unfold pickA at h ⊢
  split at h <;> try (exact h.elim)
  rename_i c
  cases c
  · obtain ⟨v, h1, h2⟩ := Fix.force _ _ h
    exact ⟨v, h1, fun K2 hk => h2 K2 hk⟩
  · obtain ⟨v, h1, h2⟩ := Fix.force _ _ h
    exact ⟨v, h1, fun K2 hk => h2 K2 hk⟩
theorem Fix.un (op : UnOp) (x : T) : Fix (unA op x) := by
  intro K h
  unfold unA at h ⊢
  split at h <;> first | exact ⟨_, h, fun _ h => h⟩ | exact h.elim
theorem Fix.int (op : BinOp) (k : IntKind) (a b : Int) : Fix (intA op k a b) := by
  intro K h
  cases op <;> first | exact ⟨_, h, fun _ h => h⟩ | exact ⟨_, h.2, fun _ h2 => ⟨h.1, h2⟩⟩ | exact h.elim
theorem Fix.str (op : BinOp) (a b : ByteArray) : Fix (strA op a b) := by
  intro K h
  cases op <;> first | exact ⟨_, h, fun _ h => h⟩ | exact ⟨_, h.2, fun _ h2 => ⟨h.1, h2⟩⟩ | exact h.elim
theorem Fix.chk {b : Bool} {F : (T → Prop) → Prop} (h : Fix F) : Fix (fun K => chk b (F K)) := by
  intro K hk
  obtain ⟨h1, h2⟩ := chk_elim hk
  obtain ⟨v, h3, h4⟩ := h K h2
  exact ⟨v, h3, fun K2 hh => chk_intro h1 (h4 K2 hh)⟩
theorem Fix.and {p : Prop} {F : (T → Prop) → Prop} (h : Fix F) : Fix (fun K => p ∧ F K) := by
  intro K ⟨h1, h2⟩
  obtain ⟨v, h3, h4⟩ := h K h2
  exact ⟨v, h3, fun K2 hh => ⟨h1, h4 K2 hh⟩⟩
theorem Fix.val (v : T) : Fix (fun K => K v) := fun K h => ⟨v, h, fun _ h => h⟩
theorem Fix.no : Fix (fun _ => False) := fun K h => h.elim
theorem Fix.nth {α : Type} (l : List α) (i : Nat) {F : α → (T → Prop) → Prop} (h : ∀ x, Fix (F x)) : Fix (fun K => nthK l i fun x => F x K) := by
  intro K hk
  obtain ⟨x, h1, h2⟩ := nthK_elim hk
  obtain ⟨v, h3, h4⟩ := h x K h2
  exact ⟨v, h3, fun K2 hh => nthK_intro h1 (h4 K2 hh)⟩

theorem Fix.bin (op : BinOp) (ty : TypeId) (ox oy : Operand) (x y : T) : Fix (binA P op ty ox oy x y) := by
  unfold binA
  split
  · split
    · exact (Fix.val _).and
    · exact (Fix.val _).and
    · exact (Fix.int _ _ _ _).chk
  · exact (Fix.str _ _ _).chk
  · split
    · exact Fix.val _
    · exact Fix.val _
    · exact Fix.no
  · rintro K ⟨vs, us, h1, h2, v, h3, h4⟩
    exact ⟨_, h4, fun K2 hh => ⟨vs, us, h1, h2, v, h3, hh⟩⟩
  · split
    · exact Fix.val _
    · exact Fix.val _
    · exact Fix.no
  · split
    · exact Fix.val _
    · exact Fix.val _
    · exact Fix.no
  · exact Fix.no
theorem Fix.part (t : TypeId) (cs : List T) (off : Nat) : Fix (partA P t cs off) := by
  unfold partA
  split
  · split
    · exact (Fix.val _).chk
    · exact Fix.nth _ _ fun x => Fix.force x
  · exact Fix.no
theorem Fix.field (t : TypeId) (a : T) (f : Nat) : Fix (fieldA P t a f) := by
  unfold fieldA
  repeat' split
  all_goals first | exact Fix.part _ _ _ | exact Fix.no
theorem Fix.fieldAddr (t : TypeId) (a : T) (f : Nat) : Fix (fieldAddrA P t a f) := by
  unfold fieldAddrA
  repeat' split
  all_goals first | exact Fix.val _ | exact Fix.no
theorem Fix.index (t : TypeId) (a ix : T) : Fix (indexA P t a ix) := by
  unfold indexA
  split
  · split
    · split
      · exact (Fix.part _ _ _).and
      · exact Fix.no
    · rintro K ⟨h1, b, h2, h3⟩
      exact ⟨_, h3, fun K2 hh => ⟨h1, b, h2, hh⟩⟩
    · exact Fix.no
  · exact Fix.no
theorem Fix.extract (a : T) (i : Nat) : Fix (extractA a i) := by
  unfold extractA
  split
  · exact Fix.nth _ _ fun x => Fix.force x
  · exact Fix.no
theorem Fix.len (t : TypeId) (a : T) : Fix (lenA P t a) := by
  unfold lenA
  repeat' split
  all_goals first | exact Fix.val _ | exact Fix.no
theorem Fix.mm (mx : Bool) (l : List T) : Fix (mmA mx l) := by
  unfold mmA
  repeat' split
  all_goals first | exact Fix.val _ | exact Fix.no
theorem Fix.fill (place : Nat → Option (Nat × Nat)) : ∀ (ps : List (Nat × T)) (cs : List T) (G : List T → T), Fix (fun K => fillA place cs ps fun cs => K (G cs))
  | [], cs, G => Fix.val _
  | (j, x) :: r, cs, G => by
    unfold fillA
    simp only [forceT_eq]
    split
    · exact ((Fix.fill place r _ G).chk.chk.chk)
    · exact Fix.no
theorem Fix.build (t : TypeId) (ps : List (Nat × T)) : Fix (buildA P t ps) := by
  unfold buildA
  repeat' split
  all_goals first | exact (Fix.fill _ _ _ _).chk | exact Fix.fill _ _ _ _ | exact Fix.no
end

/-- It reads the memory at some ids. -/
def FixM (ids : List Nat) (m : Mem) (F : Mem → (T → Prop) → Prop) : Prop :=
  ∀ K, F m K → ∃ v, K v ∧ ∀ m2 : Mem, (∀ k ∈ ids, m2.get k = m.get k) → ∀ K2 : T → Prop, K2 v → F m2 K2
/-- It writes the memory at some ids. -/
def FixW (ids wr : List Nat) (m : Mem) (F : Mem → (T → Mem → Prop) → Prop) : Prop :=
  ∀ K, F m K → ∃ v m', K v m' ∧ (∀ k, k ∉ wr → m'.get k = m.get k) ∧ (∀ k ∈ wr, True) ∧
    ∀ m2 : Mem, (∀ k ∈ ids, m2.get k = m.get k) → ∀ K2 : T → Mem → Prop, (∀ m2' : Mem, (∀ k ∈ wr, m2'.get k = m'.get k) → (∀ k, k ∉ wr → m2'.get k = m2.get k) → K2 v m2') → F m2 K2

section
variable {P : Program} {m : Mem} {ids wr : List Nat}

theorem Fix.toM {F : (T → Prop) → Prop} (h : Fix F) : FixM ids m (fun _ => F) := by
  intro K hk
  obtain ⟨v, h1, h2⟩ := h K hk
  exact ⟨v, h1, fun _ _ => h2⟩
theorem FixM.toW {F : Mem → (T → Prop) → Prop} (h : FixM ids m F) : FixW ids [] m (fun m K => F m fun v => K v m) := by
  intro K hk
  obtain ⟨v, h1, h2⟩ := h _ hk
  refine ⟨v, m, h1, fun _ _ => rfl, by simp, fun m2 ha K2 hK2 => h2 m2 ha _ (hK2 m2 (by simp) fun _ _ => rfl)⟩
theorem FixM.chk {b : Bool} {F : Mem → (T → Prop) → Prop} (h : FixM ids m F) : FixM ids m (fun m K => chk b (F m K)) := by
  intro K hk
  obtain ⟨h1, h2⟩ := chk_elim hk
  obtain ⟨v, h3, h4⟩ := h K h2
  exact ⟨v, h3, fun m2 ha K2 hh => chk_intro h1 (h4 m2 ha K2 hh)⟩
theorem FixM.and {p : Prop} {F : Mem → (T → Prop) → Prop} (h : FixM ids m F) : FixM ids m (fun m K => p ∧ F m K) := by
  intro K ⟨h1, h2⟩
  obtain ⟨v, h3, h4⟩ := h K h2
  exact ⟨v, h3, fun m2 ha K2 hh => ⟨h1, h4 m2 ha K2 hh⟩⟩
theorem FixM.no : FixM ids m (fun _ _ => False) := fun K h => h.elim
theorem FixW.no : FixW ids wr m (fun _ _ => False) := fun K h => h.elim
theorem FixW.chk {b : Bool} {F : Mem → (T → Mem → Prop) → Prop} (h : FixW ids wr m F) : FixW ids wr m (fun m K => chk b (F m K)) := by
  intro K hk
  obtain ⟨h1, h2⟩ := chk_elim hk
  obtain ⟨v, m', h3, h4, h5, h6⟩ := h K h2
  exact ⟨v, m', h3, h4, h5, fun m2 ha K2 hh => chk_intro h1 (h6 m2 ha K2 hh)⟩
theorem FixW.and {p : Prop} {F : Mem → (T → Mem → Prop) → Prop} (h : FixW ids wr m F) : FixW ids wr m (fun m K => p ∧ F m K) := by
  intro K ⟨h1, h2⟩
  obtain ⟨v, m', h3, h4, h5, h6⟩ := h K h2
  exact ⟨v, m', h3, h4, h5, fun m2 ha K2 hh => ⟨h1, h6 m2 ha K2 hh⟩⟩
theorem FixW.put (id : Nat) (b : Blk) (v : T) : FixW ids [id] m (fun m K => memF m id b fun m => K v m) := by
  intro K hk
  rw [memF_eq] at hk
  refine ⟨v, m.put id b, hk, ?_, ?_, ?_⟩
  · intro k hk
    exact Mem.get_put_other m id k b (fun e => hk (by simp [e]))
  · exact fun _ _ => trivial
  · intro m2 ha K2 hK2
    rw [memF_eq]
    refine hK2 _ ?_ ?_
    · intro k hk
      obtain rfl := List.mem_singleton.1 hk
      rw [Mem.get_put_same, Mem.get_put_same]
    · intro k hk
      exact Mem.get_put_other m2 id k b (fun e => hk (by simp [e]))

/-- What is found at an id that is read. -/
theorem FixM.get {id : Nat} {F : Blk → Mem → (T → Prop) → Prop} {N : Mem → (T → Prop) → Prop} (hid : id ∈ ids) (h : ∀ b, FixM ids m (F b)) (hn : FixM ids m N) :
    FixM ids m (fun m K => match m.get id with | some b => F b m K | none => N m K) := by
  intro K hk
  cases e : m.get id with
  | none =>
    simp only [e] at hk
    obtain ⟨v, h1, h2⟩ := hn K hk
    refine ⟨v, h1, fun m2 ha K2 hh => ?_⟩
    simp only [ha id hid, e]
    exact h2 m2 ha K2 hh
  | some b =>
    simp only [e] at hk
    obtain ⟨v, h1, h2⟩ := h b K hk
    refine ⟨v, h1, fun m2 ha K2 hh => ?_⟩
    simp only [ha id hid, e]
    exact h2 m2 ha K2 hh

theorem FixM.load (t : TypeId) (a : T) : FixM (idsT a) m (fun m => loadA P m t a) := by
  intro K h
  unfold loadA at h ⊢
  split at h <;> try (exact h.elim)
  split at h
  · rename_i id row off
    split at h <;> try (exact h.elim)
    rename_i sz rows hg
    have key : ∀ m2 : Mem, (∀ k ∈ idsT (.ptr id row off), m2.get k = m.get k) → m2.get id = some (.own sz rows) := fun m2 ha => by rw [ha id (by simp [idsT]), hg]
    obtain ⟨r, hr, h⟩ := nthK_elim h
    split at h
    · rename_i hd
      obtain ⟨h1, h2⟩ := chk_elim h
      refine ⟨_, h2, fun m2 ha K2 hh => ?_⟩
      simp only [key m2 ha]
      exact nthK_intro hr (chk_intro h1 hh)
    · obtain ⟨y, hy, h⟩ := nthK_elim h
      rw [forceT_eq] at h
      refine ⟨_, h, fun m2 ha K2 hh => ?_⟩
      simp only [key m2 ha]
      exact nthK_intro hr (nthK_intro hy (by rw [forceT_eq]; exact hh))
  · split at h
    · obtain ⟨h1, h2⟩ := chk_elim h
      exact ⟨_, h2, fun m2 ha K2 hh => chk_intro h1 hh⟩
    · obtain ⟨y, hy, h⟩ := nthK_elim h
      rw [forceT_eq] at h
      exact ⟨_, h, fun m2 ha K2 hh => nthK_intro hy (by rw [forceT_eq]; exact hh)⟩
  · exact h.elim

theorem FixM.indexAddr (t : TypeId) (a ix : T) : FixM (idsT a) m (fun m => indexAddrA P m t a ix) := by
  intro K h
  unfold indexAddrA at h ⊢
  split at h <;> try (exact h.elim)
  rename_i kk i
  cases e : P.underlying t with
  | none => simp only [e] at h
  | some d =>
    simp only [e] at h ⊢
    split at h <;> try (exact h.elim)
    · rename_i len e
      split at h <;> try (exact h.elim)
      rename_i ei hei
      try simp only [hei]
      obtain ⟨h1, h2⟩ := h
      split at h2
      · exact ⟨_, h2, fun m2 ha K2 hh => ⟨h1, hh⟩⟩
      · exact ⟨_, h2, fun m2 ha K2 hh => ⟨h1, hh⟩⟩
      · exact h2.elim
    · rename_i e
      split at h <;> try (exact h.elim)
      rename_i ei hei
      try simp only [hei]
      split at h
      · obtain ⟨h1, h2, h3⟩ := chk_elim h
        obtain ⟨r, hr, h3⟩ := nthK_elim h3
        exact ⟨_, h3, fun m2 ha K2 hh => chk_intro h1 ⟨h2, nthK_intro hr hh⟩⟩
      · rename_i id lo len
        split at h <;> try (exact h.elim)
        rename_i sz rows hg
        obtain ⟨h1, h2, h3⟩ := chk_elim h
        refine ⟨_, h3, fun m2 ha K2 hh => ?_⟩
        have : m2.get id = some (.own sz rows) := by rw [ha id (by simp [idsT]), hg]
        simp only [this]
        exact chk_intro h1 ⟨h2, hh⟩
      · exact h.elim

theorem optI_fix {p : Prop} {o : Option T} {d : Nat} {K : Nat → Prop} (h : optI o d K) : ∃ n, K n ∧ ∀ K2 : Nat → Prop, K2 n → optI o d K2 := by
  unfold optI at h
  split at h
  · exact ⟨_, h, fun K2 hh => hh⟩
  · exact ⟨_, h.2, fun K2 hh => ⟨h.1, hh⟩⟩
  · exact h.elim

theorem FixM.slice (t : TypeId) (x : T) (lo hi mx : Option T) : FixM (idsT x) m (fun m => sliceA P m t x lo hi mx) := by
  intro K h
  unfold sliceA at h ⊢
  cases e : P.underlying t with
  | none => simp only [e] at h
  | some d =>
    simp only [e] at h ⊢
    split at h <;> try (exact h.elim)
    · split at h <;> try (exact h.elim)
      obtain ⟨hh1, h, g1⟩ := optI_fix (p := True) h
      obtain ⟨ll, h, g2⟩ := optI_fix (p := True) h
      exact ⟨_, h.2, fun m2 ha K2 hh => g1 _ (g2 _ ⟨h.1, hh⟩)⟩
    · split at h <;> try (exact h.elim)
      rename_i i hi'
      try simp only [hi']
      split at h
      · rename_i sz rows
        cases mx with
        | none =>
          simp only at h ⊢
          obtain ⟨c1, h⟩ := chk_elim h
          obtain ⟨hh1, h, g1⟩ := optI_fix (p := True) h
          obtain ⟨ll, h, g2⟩ := optI_fix (p := True) h
          exact ⟨_, h.2, fun m2 ha K2 hh => chk_intro c1 (g1 _ (g2 _ ⟨h.1, hh⟩))⟩
        | some q =>
          simp only at h ⊢
          obtain ⟨c1, h⟩ := chk_elim h
          obtain ⟨mm, h, g0⟩ := optI_fix (p := True) h
          obtain ⟨hh1, h, g1⟩ := optI_fix (p := True) h
          obtain ⟨ll, h, g2⟩ := optI_fix (p := True) h
          exact ⟨_, h.2, fun m2 ha K2 hh => chk_intro c1 (g0 _ (g1 _ (g2 _ ⟨h.1, hh⟩)))⟩
      · rename_i id b len
        cases mx with
        | some q => exact h.elim
        | none =>
          try simp only at h ⊢
          split at h <;> try (exact h.elim)
          rename_i sz rows _ hg
          obtain ⟨c1, h⟩ := chk_elim h
          obtain ⟨hh1, h, g1⟩ := optI_fix (p := True) h
          obtain ⟨ll, h, g2⟩ := optI_fix (p := True) h
          refine ⟨_, h.2, fun m2 ha K2 hh => ?_⟩
          have : m2.get id = some (.own sz rows) := by rw [ha id (by simp [idsT]), hg]
          simp only [this]
          exact chk_intro c1 (g1 _ (g2 _ ⟨h.1, hh⟩))
      · exact h.elim

theorem lend_fix {t : T} {K : T → Prop} (h : lend m t K) : ∃ v, K v ∧ ∀ m2 : Mem, (∀ k ∈ idsT t, m2.get k = m.get k) → ∀ K2 : T → Prop, K2 v → lend m2 t K2 := by
  cases t with
  | sref id lo len =>
    unfold lend at h ⊢
    simp only at h ⊢
    split at h <;> try (exact h.elim)
    rename_i sz rows hg
    refine ⟨_, h.2, fun m2 ha K2 hh => ?_⟩
    have : m2.get id = some (.own sz rows) := by rw [ha id (by simp [idsT]), hg]
    simp only [this]
    exact ⟨h.1, hh⟩
  | ptr id row off =>
    unfold lend at h ⊢
    simp only at h ⊢
    split at h <;> try (exact h.elim)
    rename_i sz rows hg
    obtain ⟨r, hr, h1, h2⟩ := nthK_elim h
    refine ⟨_, h2, fun m2 ha K2 hh => ?_⟩
    have : m2.get id = some (.own sz rows) := by rw [ha id (by simp [idsT]), hg]
    simp only [this]
    exact nthK_intro hr ⟨h1, hh⟩
  | vp r off => exact ⟨_, h.2, fun m2 ha K2 hh => ⟨h.1, hh⟩⟩
  | clo f cs =>
    cases cs with
    | nil => exact ⟨_, h, fun m2 ha K2 hh => hh⟩
    | cons a r =>
      unfold lend at h ⊢
      simp only at h ⊢
      exact absurd (chk_elim h).1 (by simp [bvA, bvOk])
  | _ =>
    unfold lend at h ⊢
    simp only at h ⊢
    obtain ⟨h1, h2⟩ := chk_elim h
    rw [forceT_eq] at h2
    exact ⟨_, h2, fun m2 ha K2 hh => chk_intro h1 (by rw [forceT_eq]; exact hh)⟩

theorem lendL_fix : ∀ {ts : List T} {K : List T → Prop}, lendL m ts K → ∃ v, K v ∧ ∀ m2 : Mem, (∀ k ∈ ts.flatMap idsT, m2.get k = m.get k) → ∀ K2 : List T → Prop, K2 v → lendL m2 ts K2
  | [], K, h => ⟨_, h, fun _ _ _ h => h⟩
  | t :: r, K, h => by
    obtain ⟨v, h1, g1⟩ := lend_fix h
    obtain ⟨vs, h2, g2⟩ := lendL_fix h1
    exact ⟨_, h2, fun m2 ha K2 hh => g1 m2 (fun k hk => ha k (by simp [hk])) _ (g2 m2 (fun k hk => ha k (by simp at hk ⊢; exact .inr hk)) _ hh)⟩

theorem FixM.call (f : FuncId) (ts : List T) : FixM (ts.flatMap idsT) m (fun m => callA P m f ts) := by
  intro K h
  unfold callA at h ⊢
  split at h <;> try (exact h.elim)
  rename_i fn hfn
  simp only [hfn]
  obtain ⟨c1, h⟩ := chk_elim h
  obtain ⟨c2, h⟩ := chk_elim h
  obtain ⟨ts', ⟨o, hF, h⟩, g⟩ := lendL_fix h
  obtain ⟨c3, h⟩ := chk_elim h
  rw [forceT_eq] at h
  exact ⟨o, h, fun m2 ha K2 hh => chk_intro c1 (chk_intro c2 (g m2 ha _ ⟨o, hF, chk_intro c3 (by rw [forceT_eq]; exact hh)⟩))⟩


theorem FixW.store (t : TypeId) (a x : T) : FixW (idsT a) (idsT a) m (fun m K => storeA P m t a x fun m => K (.lit undef) m) := by
  intro K h
  unfold storeA at h ⊢
  split at h <;> try (exact h.elim)
  rename_i i hi
  try simp only [hi]
  split at h <;> try (exact h.elim)
  rename_i id row off
  split at h <;> try (exact h.elim)
  rename_i sz rows hg
  obtain ⟨r, hr, h⟩ := nthK_elim h
  obtain ⟨c1, h⟩ := chk_elim h
  obtain ⟨c2, h⟩ := chk_elim h
  obtain ⟨c3, h⟩ := chk_elim h
  obtain ⟨v, m', h1, h2, h3, h4⟩ := FixW.put (ids := [id]) (m := m) id (.own sz (rows.set row (spl r off (cellsT x)))) (.lit undef) K h
  refine ⟨v, m', h1, h2, h3, fun m2 ha K2 hh => ?_⟩
  have : m2.get id = some (.own sz rows) := by rw [ha id (by simp [idsT]), hg]
  simp only [this]
  exact nthK_intro hr (chk_intro c1 (chk_intro c2 (chk_intro c3 (h4 m2 ha K2 hh))))

theorem FixW.alloc (id : Nat) (t : TypeId) : FixW ids [id] m (fun m => allocA P m id t) := by
  unfold allocA
  split
  · split
    · exact (FixW.put _ _ _).chk
    · exact FixW.no
  · exact FixW.no
theorem FixW.box (id : Nat) (t : TypeId) (x : T) : FixW ids [id] m (fun m => boxA P m id t x) := by
  unfold boxA
  split
  · exact (FixW.put _ _ _).chk.chk
  · exact FixW.no
theorem partsR_fix {sz : Nat} : ∀ {ps : List (Nat × T)} {k : Nat} {K : List (List T) → Prop}, partsR sz k ps K → ∃ v, K v ∧ ∀ K2 : List (List T) → Prop, K2 v → partsR sz k ps K2
  | [], k, K, h => ⟨_, h, fun _ h => h⟩
  | (j, x) :: r, k, K, h => by
    unfold partsR at h ⊢
    simp only [forceT_eq] at h ⊢
    obtain ⟨c1, h⟩ := chk_elim h
    obtain ⟨c2, h⟩ := chk_elim h
    obtain ⟨c3, h⟩ := chk_elim h
    obtain ⟨v, h, g⟩ := partsR_fix h
    exact ⟨_, h, fun K2 hh => chk_intro c1 (chk_intro c2 (chk_intro c3 (g _ hh)))⟩
theorem partsO_fix {sz : Nat} : ∀ {ps : List (Nat × T)} {k : Nat} {K : List (List T) → Prop}, partsO sz k ps K → ∃ v, K v ∧ ∀ K2 : List (List T) → Prop, K2 v → partsO sz k ps K2
  | [], k, K, h => ⟨_, h, fun _ h => h⟩
  | (j, x) :: r, k, K, h => by
    unfold partsO at h ⊢
    simp only [forceT_eq] at h ⊢
    obtain ⟨c1, h⟩ := chk_elim h
    obtain ⟨c2, h⟩ := chk_elim h
    obtain ⟨c3, h⟩ := chk_elim h
    obtain ⟨v, h, g⟩ := partsO_fix h
    exact ⟨_, h, fun K2 hh => chk_intro c1 (chk_intro c2 (chk_intro c3 (g _ hh)))⟩
theorem FixW.partsR {sz k : Nat} {ps : List (Nat × T)} {F : List (List T) → Mem → (T → Mem → Prop) → Prop} (h : ∀ rows, FixW ids wr m (F rows)) :
    FixW ids wr m (fun m K => Go.AW.partsR sz k ps fun rows => F rows m K) := by
  intro K hk
  obtain ⟨rows, hk, g⟩ := partsR_fix hk
  obtain ⟨v, m', h1, h2, h3, h4⟩ := h rows K hk
  exact ⟨v, m', h1, h2, h3, fun m2 ha K2 hh => g _ (h4 m2 ha K2 hh)⟩
theorem FixW.partsO {sz k : Nat} {ps : List (Nat × T)} {F : List (List T) → Mem → (T → Mem → Prop) → Prop} (h : ∀ rows, FixW ids wr m (F rows)) :
    FixW ids wr m (fun m K => Go.AW.partsO sz k ps fun rows => F rows m K) := by
  intro K hk
  obtain ⟨rows, hk, g⟩ := partsO_fix hk
  obtain ⟨v, m', h1, h2, h3, h4⟩ := h rows K hk
  exact ⟨v, m', h1, h2, h3, fun m2 ha K2 hh => g _ (h4 m2 ha K2 hh)⟩
theorem FixW.buildSlice (id : Nat) (br : Bool) (t : TypeId) (n : Nat) (ps : List (Nat × T)) : FixW ids [id] m (fun m => buildSliceA P m id br t n ps) := by
  unfold buildSliceA
  split <;> try exact FixW.no
  split <;> try exact FixW.no
  split <;> try exact FixW.no
  cases br with
  | false => exact (FixW.partsR fun rows => FixW.put _ _ _).chk.chk.chk.chk
  | true => exact (FixW.partsO fun rows => FixW.put _ _ _).chk.chk.chk.chk
theorem FixW.makeSlice (id : Nat) (br : Bool) (t : TypeId) (l c : T) : FixW ids [id] m (fun m => makeSliceA P m id br t l c) := by
  intro K h
  unfold makeSliceA at h ⊢
  split at h <;> try (exact h.elim)
  split at h <;> try (exact h.elim)
  split at h <;> try (exact h.elim)
  obtain ⟨c1, h⟩ := chk_elim h
  obtain ⟨c2, h⟩ := chk_elim h
  obtain ⟨c3, h⟩ := chk_elim h
  split at h <;> try (exact h.elim)
  obtain ⟨d, h⟩ := h
  cases br with
  | false =>
    obtain ⟨v, m', h1, h2, h3, h4⟩ := FixW.put (ids := ids) (m := m) _ _ _ K h
    exact ⟨v, m', h1, h2, h3, fun m2 ha K2 hh => chk_intro c1 (chk_intro c2 (chk_intro c3 ⟨d, h4 m2 ha K2 hh⟩))⟩
  | true =>
    obtain ⟨v, m', h1, h2, h3, h4⟩ := FixW.put (ids := ids) (m := m) _ _ _ K h
    exact ⟨v, m', h1, h2, h3, fun m2 ha K2 hh => chk_intro c1 (chk_intro c2 (chk_intro c3 ⟨d, h4 m2 ha K2 hh⟩))⟩


theorem FixW.range (id : Nat) (t : TypeId) (x : T) : FixW ids [id] m (fun m => rangeA P m id t x) := by
  unfold rangeA
  split <;> try exact FixW.no
  split <;> try exact FixW.no
  exact FixW.put _ _ _
theorem more_fix {e : TypeId} {i : TypeInfo} {tx : TypeId} {x : T} {K : List (List T) → Prop} (h : moreA P m e i tx x K) : ∃ v, K v ∧ ∀ (m2 : Mem) (K2 : List (List T) → Prop), K2 v → moreA P m2 e i tx x K2 := by
  unfold moreA at h ⊢
  cases e2 : P.underlying tx with
  | none => simp only [e2] at h
  | some d =>
    simp only [e2] at h ⊢
    split at h <;> try (exact h.elim)
    · split at h
      · obtain ⟨c, h⟩ := chk_elim h
        exact ⟨_, h, fun m2 K2 hh => chk_intro c hh⟩
      · split at h
        · exact ⟨_, h, fun m2 K2 hh => hh⟩
        · exact h.elim
      · exact h.elim
    · split at h <;> try (exact h.elim)
      obtain ⟨c, h⟩ := chk_elim h
      exact ⟨_, h, fun m2 K2 hh => chk_intro c hh⟩

theorem moreZ_fix {e : TypeId} {i : TypeInfo} {z : Value} {tx : TypeId} {x : T} {K : List (List T) → Prop} (h : moreZ P m e i z tx x K) : ∃ v, K v ∧ ∀ (m2 : Mem) (K2 : List (List T) → Prop), K2 v → moreZ P m2 e i z tx x K2 := by
  unfold moreZ at h
  cases e2 : P.underlying tx with
  | none => 
    simp only [e2] at h
    obtain ⟨v, hv, g⟩ := more_fix h
    exact ⟨v, hv, fun m2 K2 hh => by unfold moreZ; simp only [e2]; exact g m2 K2 hh⟩
  | some d =>
    simp only [e2] at h
    split at h
    · rename_i k hk
      cases hk
      split at h <;> try (exact h.elim)
      obtain ⟨c, h0, h⟩ := chk_elim h
      exact ⟨_, h, fun m2 K2 hh => by unfold moreZ; simp only [e2]; exact chk_intro c ⟨h0, hh⟩⟩
    · rename_i hne
      obtain ⟨v, hv, g⟩ := more_fix h
      exact ⟨v, hv, fun m2 K2 hh => by unfold moreZ; simp only [e2]; exact g m2 K2 hh⟩

theorem FixW.move (id j : Nat) (hij : id ≠ j) (b : Blk) (v : T) (ids : List Nat) : FixW ids [id, j] m (fun m K => delF m j fun m => memF m id b fun m => K v m) := by
  intro K hk
  rw [delF_eq, memF_eq] at hk
  refine ⟨v, (m.del j).put id b, hk, ?_, fun _ _ => trivial, ?_⟩
  · intro k hk
    rw [Mem.get_put_other _ id k b (fun e => hk (by simp [e])), Mem.get_del_other _ j k (fun e => hk (by simp [e]))]
  · intro m2 ha K2 hK2
    rw [delF_eq, memF_eq]
    refine hK2 _ ?_ ?_
    · intro k hk
      by_cases e : k = id
      · subst e; rw [Mem.get_put_same, Mem.get_put_same]
      · have : k = j := by simpa [e] using hk
        subst this
        rw [Mem.get_put_other _ _ _ _ hij, Mem.get_put_other _ _ _ _ hij, Mem.get_del_same, Mem.get_del_same]
    · intro k hk
      rw [Mem.get_put_other _ id k b (fun e => hk (by simp [e])), Mem.get_del_other _ j k (fun e => hk (by simp [e]))]

theorem FixW.moveSame (j : Nat) (b : Blk) (v : T) (ids : List Nat) : FixW ids [j, j] m (fun m K => delF m j fun m => memF m j b fun m => K v m) := by
  intro K hk
  rw [delF_eq, memF_eq] at hk
  refine ⟨v, (m.del j).put j b, hk, ?_, fun _ _ => trivial, ?_⟩
  · intro k hk
    rw [Mem.get_put_other _ j k b (fun e => hk (by simp [e])), Mem.get_del_other _ j k (fun e => hk (by simp [e]))]
  · intro m2 ha K2 hK2
    rw [delF_eq, memF_eq]
    refine hK2 _ ?_ ?_
    · intro k hk
      have : k = j := by simpa using hk
      subst this; rw [Mem.get_put_same, Mem.get_put_same]
    · intro k hk
      rw [Mem.get_put_other _ j k b (fun e => hk (by simp [e])), Mem.get_del_other _ j k (fun e => hk (by simp [e]))]

theorem FixW.move' (id j : Nat) (b : Blk) (v : T) (ids : List Nat) : FixW ids [id, j] m (fun m K => delF m j fun m => memF m id b fun m => K v m) := by
  by_cases e : id = j
  · subst e; exact FixW.moveSame _ b v ids
  · exact FixW.move id j e b v ids

theorem FixW.appO (id : Nat) (i : TypeInfo) (s : T) (more : List (List T)) : FixW (idsT s) (id :: idsT s) m (fun m => Go.AW.appO m id i s more) := by
  intro K h
  obtain ⟨hb, h⟩ := h
  cases s with
  | lit u =>
    simp only at h
    cases hn : isNilSl u with
    | false => simp only [hn] at h
    | true =>
      simp only [hn] at h
      obtain ⟨d1, d2, h⟩ := h
      obtain ⟨v, m', h1, h2, h3, h4⟩ := FixW.put (ids := idsT (.lit u)) (m := m) _ _ _ K h
      exact ⟨v, m', h1, h2, h3, fun m2 ha K2 hh => ⟨hb, by simp only [hn]; exact ⟨d1, d2, h4 m2 ha K2 hh⟩⟩⟩
  | sl tok sz rows =>
    cases tok with
    | none => exact h.elim
    | some j =>
      cases rows with
      | cons => exact h.elim
      | nil =>
        simp only at h
        cases hg : m.get j with
        | none => simp only [hg] at h
        | some blk =>
          cases blk with
          | tok sz' n =>
            cases n with
            | succ n => simp only [hg] at h
            | zero =>
              simp only [hg] at h
              obtain ⟨c3, h⟩ := chk_elim h
              obtain ⟨c4, h⟩ := chk_elim h
              obtain ⟨d1, d2, h⟩ := h
              obtain ⟨v, m', h1, h2, h3, h4⟩ := FixW.move' (m := m) id j _ _ (idsT (.sl (some j) sz [])) K h
              refine ⟨v, m', h1, h2, h3, fun m2 ha K2 hh => ⟨hb, ?_⟩⟩
              have : m2.get j = some (.tok sz' 0) := by rw [ha j (by simp [idsT]), hg]
              simp only [this]
              exact chk_intro c3 (chk_intro c4 ⟨d1, d2, h4 m2 ha K2 hh⟩)
          | _ => simp only [hg] at h
  | sref j lo len =>
    simp only at h
    cases hg : m.get j with
    | none => simp only [hg] at h
    | some blk =>
      cases blk with
      | own sz rows =>
        simp only [hg] at h
        obtain ⟨c3, h⟩ := chk_elim h
        obtain ⟨c4, h⟩ := chk_elim h
        obtain ⟨d1, h⟩ := h
        obtain ⟨v, m', h1, h2, h3, h4⟩ := FixW.move' (m := m) id j _ _ (idsT (.sref j lo len)) K h
        refine ⟨v, m', h1, h2, h3, fun m2 ha K2 hh => ⟨hb, ?_⟩⟩
        have : m2.get j = some (.own sz rows) := by rw [ha j (by simp [idsT]), hg]
        simp only [this]
        exact chk_intro c3 (chk_intro c4 ⟨d1, h4 m2 ha K2 hh⟩)
      | _ => simp only [hg] at h
  | _ => exact h.elim

theorem FixW.append (id : Nat) (br : Bool) (ts tx : TypeId) (s x : T) : FixW (idsT s) (wrApp id br s) m (fun m => appendA P m id br ts tx s x) := by
  intro K h
  unfold appendA at h ⊢
  split at h <;> try (exact h.elim)
  split at h <;> try (exact h.elim)
  split at h <;> try (exact h.elim)
  obtain ⟨c1, h⟩ := chk_elim h
  obtain ⟨c2, h⟩ := chk_elim h
  obtain ⟨more, h, g⟩ := moreZ_fix h
  cases br with
  | true =>
    obtain ⟨v, m', h1, h2, h3, h4⟩ := FixW.appO id _ s more K h
    exact ⟨v, m', h1, h2, h3, fun m2 ha K2 hh => chk_intro c1 (chk_intro c2 (g m2 _ (h4 m2 ha K2 hh)))⟩
  | false =>
  simp only at h
  cases s with
  | lit u =>
    simp only at h
    cases hn : isNilSl u with
    | false => simp only [hn] at h
    | true =>
      simp only [hn] at h
      obtain ⟨d1, d2, h⟩ := h
      obtain ⟨v, m', h1, h2, h3, h4⟩ := FixW.put (ids := idsT (.lit u)) (m := m) _ _ _ K h
      exact ⟨v, m', h1, h2, h3, fun m2 ha K2 hh => chk_intro c1 (chk_intro c2 (g m2 _ (by simp only [hn]; exact ⟨d1, d2, h4 m2 ha K2 hh⟩)))⟩
  | sl tok sz rows =>
    cases tok with
    | none => exact h.elim
    | some j =>
      simp only at h
      cases hg : m.get j with
      | none => simp only [hg] at h
      | some blk =>
        cases blk with
        | tok sz' n =>
          simp only [hg] at h
          obtain ⟨c3, h⟩ := chk_elim h
          obtain ⟨c4, h⟩ := chk_elim h
          obtain ⟨d1, d2, d3, h⟩ := h
          obtain ⟨v, m', h1, h2, h3, h4⟩ := FixW.put (ids := idsT (.sl (some j) sz rows)) (m := m) _ _ _ K h
          refine ⟨v, m', h1, h2, h3, fun m2 ha K2 hh => chk_intro c1 (chk_intro c2 (g m2 _ ?_))⟩
          have : m2.get j = some (.tok sz' n) := by rw [ha j (by simp [idsT]), hg]
          simp only [this]
          exact chk_intro c3 (chk_intro c4 ⟨d1, d2, d3, h4 m2 ha K2 hh⟩)
        | _ => simp only [hg] at h
  | _ => exact h.elim


theorem FixW.copy (ts tx : TypeId) (s x : T) : FixW (idsT s) (idsT s) m (fun m => copyA P m ts tx s x) := by
  intro K h
  unfold copyA at h ⊢
  split at h <;> try (exact h.elim)
  split at h <;> try (exact h.elim)
  obtain ⟨c1, h⟩ := chk_elim h
  obtain ⟨more, h, g⟩ := more_fix h
  cases s with
  | sref j lo len =>
    simp only at h
    cases hg : m.get j with
    | none => simp only [hg] at h
    | some blk =>
      cases blk with
      | own sz rows =>
        simp only [hg] at h
        obtain ⟨c3, h⟩ := chk_elim h
        obtain ⟨d1, h⟩ := h
        obtain ⟨v, m', h1, h2, h3, h4⟩ := FixW.put (ids := idsT (.sref j lo len)) (m := m) _ _ _ K h
        refine ⟨v, m', h1, h2, h3, fun m2 ha K2 hh => chk_intro c1 (g m2 _ ?_)⟩
        have : m2.get j = some (.own sz rows) := by rw [ha j (by simp [idsT]), hg]
        simp only [this]
        exact chk_intro c3 ⟨d1, h4 m2 ha K2 hh⟩
      | _ => simp only [hg] at h
  | _ => exact h.elim

theorem FixW.next (isStr : Bool) (x : T) : FixW (idsT x) (idsT x) m (fun m => nextA m isStr x) := by
  intro K h
  cases isStr with
  | false => exact h.elim
  | true =>
    cases x with
    | itr id =>
      simp only [nextA] at h ⊢
      cases hg : m.get id with
      | none => simp only [hg] at h
      | some blk =>
        cases blk with
        | iter s pos =>
          simp only [hg] at h
          cases hd : decide (pos < s.size) with
          | true =>
            simp only [hd] at h
            obtain ⟨v, m', h1, h2, h3, h4⟩ := FixW.put (ids := idsT (.itr id)) (m := m) _ _ _ K h
            refine ⟨v, m', h1, h2, h3, fun m2 ha K2 hh => ?_⟩
            have : m2.get id = some (.iter s pos) := by rw [ha id (by simp [idsT]), hg]
            simp only [this, hd]
            exact h4 m2 ha K2 hh
          | false =>
            simp only [hd] at h
            refine ⟨_, m, h, fun _ _ => rfl, fun _ _ => trivial, fun m2 ha K2 hh => ?_⟩
            have : m2.get id = some (.iter s pos) := by rw [ha id (by simp [idsT]), hg]
            simp only [this, hd]
            exact hh m2 (fun k hk => ha k hk) (fun _ _ => rfl)
        | _ => simp only [hg] at h
    | _ => exact h.elim

theorem rowsOf_fix {a : T} {K : Nat → List (List T) → Prop} (h : rowsOf m a K) : ∃ sz rows, K sz rows ∧ ∀ m2 : Mem, (∀ k ∈ idsT a, m2.get k = m.get k) → ∀ K2 : Nat → List (List T) → Prop, K2 sz rows → rowsOf m2 a K2 := by
  cases a with
  | sl tok sz rows => exact ⟨_, _, h, fun m2 ha K2 hh => hh⟩
  | sref id lo len =>
    unfold rowsOf at h ⊢
    simp only at h ⊢
    split at h <;> try (exact h.elim)
    rename_i sz rows hg
    refine ⟨_, _, h.2, fun m2 ha K2 hh => ?_⟩
    have : m2.get id = some (.own sz rows) := by rw [ha id (by simp [idsT]), hg]
    simp only [this]
    exact ⟨h.1, hh⟩
  | _ => exact h.elim

theorem FixW.keep (v : T) : FixW ids [] m (fun m K => K v m) := FixM.toW (F := fun _ K => K v) (Fix.toM (Fix.val v))

end

section
variable {P : Program} {m : Mem}
theorem nil_fix {s : TypeDesc} {b : Bool} {K : T → Mem → Prop} : (match s, b with
    | .slice e, true => match P.underlying e with
      | some (.int .u8) | some (.int .i32) => K (.lit (.string ByteArray.empty)) m
      | _ => False
    | _, _ => False) → ∃ v, K v m ∧ ∀ (m2 : Mem) (K2 : T → Mem → Prop), K2 v m2 → (match s, b with
    | .slice e, true => match P.underlying e with
      | some (.int .u8) | some (.int .i32) => K2 (.lit (.string ByteArray.empty)) m2
      | _ => False
    | _, _ => False) := by
  intro h
  split at h <;> try (exact h.elim)
  split at h <;> try (exact h.elim)
  · exact ⟨_, h, fun m2 K2 hh => hh⟩
  · exact ⟨_, h, fun m2 K2 hh => hh⟩

theorem FixW.convert (id : Nat) (br : Bool) (src dst : TypeId) (x : T) : FixW (idsT x) (wrConv P id dst x) m (fun m => convertA P m id br src dst x) := by
  intro K h
  cases hs : P.underlying src with
  | none => unfold convertA at h; simp only [hs] at h
  | some s =>
    cases hd : P.underlying dst with
    | none => unfold convertA at h; simp only [hs, hd] at h
    | some d =>
      have nowr : ∀ v, K v m → wrConv P id dst x = [] → (∀ (m2 : Mem), (∀ k ∈ idsT x, m2.get k = m.get k) → ∀ K2 : T → Mem → Prop, K2 v m2 → convertA P m2 id br src dst x K2) →
          ∃ v m', K v m' ∧ (∀ k, k ∉ wrConv P id dst x → m'.get k = m.get k) ∧ (∀ k ∈ wrConv P id dst x, True) ∧
            ∀ m2 : Mem, (∀ k ∈ idsT x, m2.get k = m.get k) → ∀ K2 : T → Mem → Prop, (∀ m2' : Mem, (∀ k ∈ wrConv P id dst x, m2'.get k = m'.get k) → (∀ k, k ∉ wrConv P id dst x → m2'.get k = m2.get k) → K2 v m2') → convertA P m2 id br src dst x K2 := by
        intro v hv hw g
        rw [hw]
        exact ⟨v, m, hv, fun _ _ => rfl, by simp, fun m2 ha K2 hh => g m2 ha K2 (hh m2 (by simp) fun _ _ => rfl)⟩
      unfold convertA at h
      simp only [hs, hd] at h
      cases d with
      | int k =>
        cases x with
        | lit u =>
          cases u with
          | int k2 n => exact nowr _ h (by simp [wrConv, hd]) fun m2 ha K2 hh => by unfold convertA; simp only [hs, hd]; exact hh
          | _ => exact h.elim
        | _ => exact h.elim
      | string =>
        have viaSlice : ∀ e, s = .slice e → (∀ l : List T, x = .agg l ∨ True) → ∀ (h : match P.underlying e with
            | some (.int .u8) => rowsOf m x fun sz rows => ∃ l : List UInt8, (sz = 1 ∧ rows = bytesR l) ∧ K (.lit (.string ⟨l.toArray⟩)) m
            | some (.int .i32) => rowsOf m x fun sz rows => ∃ l : List Int, (sz = 1 ∧ rows = runesR l) ∧ K (.lit (.string (l.foldl (fun a c => a ++ Utf8.encode c) ByteArray.empty))) m
            | _ => False),
            ∃ v, K v m ∧ ∀ (m2 : Mem), (∀ k ∈ idsT x, m2.get k = m.get k) → ∀ K2 : T → Mem → Prop, K2 v m2 → (match P.underlying e with
            | some (.int .u8) => rowsOf m2 x fun sz rows => ∃ l : List UInt8, (sz = 1 ∧ rows = bytesR l) ∧ K2 (.lit (.string ⟨l.toArray⟩)) m2
            | some (.int .i32) => rowsOf m2 x fun sz rows => ∃ l : List Int, (sz = 1 ∧ rows = runesR l) ∧ K2 (.lit (.string (l.foldl (fun a c => a ++ Utf8.encode c) ByteArray.empty))) m2
            | _ => False) := by
          intro e _ _ h
          split at h <;> try (exact h.elim)
          · obtain ⟨sz, rows, ⟨l, h1, h2⟩, g⟩ := rowsOf_fix h
            exact ⟨_, h2, fun m2 ha K2 hh => g m2 ha _ ⟨l, h1, hh⟩⟩
          · obtain ⟨sz, rows, ⟨l, h1, h2⟩, g⟩ := rowsOf_fix h
            exact ⟨_, h2, fun m2 ha K2 hh => g m2 ha _ ⟨l, h1, hh⟩⟩
        cases x with
        | lit u =>
          cases u with
          | string b => exact nowr _ h (by simp [wrConv, hd]) fun m2 ha K2 hh => by unfold convertA; simp only [hs, hd]; exact hh
          | int k2 n => exact nowr _ h (by simp [wrConv, hd]) fun m2 ha K2 hh => by unfold convertA; simp only [hs, hd]; exact hh
          | _ =>
            obtain ⟨v, h1, h2⟩ := nil_fix h
            exact nowr v h1 (by simp [wrConv, hd]) fun m2 ha K2 hh => by unfold convertA; simp only [hs, hd]; exact h2 m2 K2 hh
        | _ =>
          cases s with
          | slice e =>
            obtain ⟨v, h1, h2⟩ := viaSlice e rfl (fun _ => .inr trivial) h
            exact nowr v h1 (by simp [wrConv, hd]) fun m2 ha K2 hh => by unfold convertA; simp only [hs, hd]; exact h2 m2 ha K2 hh
          | _ => exact h.elim
      | slice e =>
        cases x with
        | lit u =>
          cases u with
          | string b =>
            have hw : wrConv P id dst (.lit (.string b)) = [id] := by simp [wrConv, hd]
            rw [hw]
            simp only at h
            split at h <;> try (exact h.elim)
            rename_i he
            cases br with
            | false =>
              obtain ⟨v, m', h1, h2, h3, h4⟩ := FixW.put (ids := idsT (.lit (.string b))) (m := m) _ _ _ K h
              exact ⟨v, m', h1, h2, h3, fun m2 ha K2 hh => by unfold convertA; simp only [hs, hd, he]; exact h4 m2 ha K2 hh⟩
            | true =>
              obtain ⟨v, m', h1, h2, h3, h4⟩ := FixW.put (ids := idsT (.lit (.string b))) (m := m) _ _ _ K h
              exact ⟨v, m', h1, h2, h3, fun m2 ha K2 hh => by unfold convertA; simp only [hs, hd, he]; exact h4 m2 ha K2 hh⟩
          | _ => exact h.elim
        | sl tok sz rows =>
          cases tok with
          | none => exact h.elim
          | some j =>
            simp only at h
            split at h <;> try (exact h.elim)
            rename_i he
            obtain ⟨c1, h⟩ := chk_elim h
            split at h <;> try (exact h.elim)
            rename_i sz' n hg
            refine nowr _ h.2.2 (by simp [wrConv, hd]) fun m2 ha K2 hh => ?_
            have : m2.get j = some (.tok sz' n) := by rw [ha j (by simp [idsT]), hg]
            unfold convertA
            simp only [hs, hd, he, this]
            exact chk_intro c1 ⟨h.1, h.2.1, hh⟩
        | _ => exact h.elim
      | _ => exact h.elim


theorem partsOf_cong {ρ ρ2 : List (Nat × T)} {ps : Array (Nat × Operand)} (h : ∀ y ∈ ps.toList.map (·.2), ev ρ2 y = ev ρ y) : partsOf ρ2 ps = partsOf ρ ps := by
  unfold partsOf
  refine List.map_congr_left fun p hp => ?_
  rw [h p.2 (List.mem_map.2 ⟨p, hp, rfl⟩)]
def nilA (x : T) (K : T → Prop) : Prop := match x with
  | .ptr a b c => K (.ptr a b c)
  | .vp a b => K (.vp a b)
  | _ => False
theorem Fix.nilA (x : T) : Fix (Go.AW.nilA x) := by
  unfold Go.AW.nilA
  split
  · exact Fix.val _
  · exact Fix.val _
  · exact Fix.no
theorem litsK_fix {l : List T} {K : List Value → Prop} (h : litsK l K) : ∃ vs, K vs ∧ ∀ K2 : List Value → Prop, K2 vs → litsK l K2 := by
  induction l generalizing K with
  | nil => exact ⟨[], h, fun _ h => h⟩
  | cons t r ih =>
    cases t with
    | lit v =>
      obtain ⟨vs, h1, h2⟩ := ih (K := fun vs => K (v :: vs)) h
      exact ⟨v :: vs, h1, fun K2 hk => h2 (fun vs => K2 (v :: vs)) hk⟩
    | _ => exact h.elim
theorem valK_fix {t : T} {K : Value → Prop} (h : valK t K) : ∃ v, K v ∧ ∀ K2 : Value → Prop, K2 v → valK t K2 := by
  unfold valK at h ⊢
  split at h
  · exact ⟨_, h, fun _ h => h⟩
  · obtain ⟨vs, h1, h2⟩ := litsK_fix h
    exact ⟨_, h1, fun K2 hk => h2 (fun vs => K2 (.agg vs.toArray)) hk⟩
  · exact h.elim
theorem Fix.mkIfc (t : TypeId) (x : T) : Fix (mkIfcA P t x) := by
  unfold mkIfcA
  split
  · exact Fix.no
  · split
    · exact Fix.val _
    · intro K h
      obtain ⟨vs, h1, h2⟩ := litsK_fix h
      exact ⟨_, h1, fun K2 hk => h2 (fun vs => K2 (.lit (.iface t (.agg vs.toArray)))) hk⟩
    · exact Fix.val _
    · exact Fix.no
  · exact Fix.no
theorem Fix.typeAs (x : T) (t : TypeId) (ok : Bool) : Fix (typeAsA P x t ok) := by
  unfold typeAsA
  repeat' split
  all_goals first | exact Fix.val _ | exact Fix.no | exact Fix.force _ | (intro K h; rw [forceT_eq] at h; exact ⟨_, h, fun K2 hk => by show forceT _ _; rw [forceT_eq]; exact hk⟩)
theorem Fix.makeFunc (fn : Fn) (a b : List T) : Fix (makeFuncA fn a b) := by
  unfold makeFuncA
  split
  · exact Fix.val _
  · exact Fix.no
theorem FixW.makeMap {ids : List Nat} (id : Nat) (b : Bool) : FixW ids [id] m (fun m K => Go.AW.chk b (memF m id (.map []) (K (.mref id)))) := (FixW.put id (.map []) (.mref id)).chk
theorem FixM.lookup (t : TypeId) (x ix : T) (ok : Bool) : FixM (idsT x) m (fun m => lookupA P m t x ix ok) := by
  intro K h
  unfold lookupA at h ⊢
  split at h <;> try (exact h.elim)
  split at h <;> try (exact h.elim)
  split at h <;> try (exact h.elim)
  obtain ⟨c1, h⟩ := chk_elim h
  split at h <;> try (exact h.elim)
  rename_i id _
  split at h <;> try (exact h.elim)
  rename_i kv hg
  obtain ⟨r, hr, h⟩ := h
  rw [forceT_eq] at h
  refine ⟨_, h, fun m2 ha K2 hk => chk_intro c1 ?_⟩
  have e : m2.get _ = some (.map kv) := (ha _ (by simp [idsT])).trans hg
  simp only [e]
  exact ⟨r, hr, by rw [forceT_eq]; exact hk⟩
theorem FixW.mapUpdate (t : TypeId) (x k v : T) : FixW (idsT x) (idsT x) m (fun m K => mapUpdateA P m t x k v fun m => K (.lit undef) m) := by
  intro K h
  unfold mapUpdateA at h ⊢
  split at h <;> try (exact h.elim)
  split at h <;> try (exact h.elim)
  obtain ⟨c1, h⟩ := chk_elim h
  split at h <;> try (exact h.elim)
  split at h <;> try (exact h.elim)
  rename_i kv hg
  obtain ⟨u, ⟨kv', hp, h⟩, hu⟩ := valK_fix h
  obtain ⟨v', m', h1, h2, h3, h4⟩ := FixW.put (ids := idsT (.mref _)) (m := m) _ _ (T.lit undef) K h
  refine ⟨v', m', h1, h2, h3, fun m2 ha K2 hh => chk_intro c1 ?_⟩
  have e : m2.get _ = some (.map kv) := (ha _ (by simp [idsT])).trans hg
  simp only [e]
  exact hu _ ⟨kv', hp, h4 m2 ha K2 hh⟩
theorem FixW.clear (t : TypeId) (x : T) : FixW (idsT x) (idsT x) m (fun m => clearA P m t x) := by
  intro K h
  unfold clearA at h ⊢
  split at h <;> try (exact h.elim)
  split at h <;> try (exact h.elim)
  rename_i id
  split at h <;> try (exact h.elim)
  rename_i kv hg
  obtain ⟨v', m', h1, h2, h3, h4⟩ := FixW.put (ids := idsT (.mref id)) (m := m) _ _ (T.tup []) K h
  refine ⟨v', m', h1, h2, h3, fun m2 ha K2 hh => ?_⟩
  have e : m2.get id = some (.map kv) := by rw [ha id (by simp [idsT]), hg]
  simp only [e]
  exact h4 m2 ha K2 hh
/-- All that an operation hangs on. -/
def Local (P : Program) (rl : List Nat) (id : Nat) (o : Oper) (ρ : List (Nat × T)) (m : Mem) (v : T) (m' : Mem) : Prop :=
  (∀ k, k ∉ wrOf P ρ id (byref rl o.dst) o.op → m'.get k = m.get k) ∧ (∀ k ∈ wrOf P ρ id (byref rl o.dst) o.op, True) ∧
    ∀ (ρ2 : List (Nat × T)) (m2 : Mem), (∀ y ∈ o.op.operands.toList, ev ρ2 y = ev ρ y) → (∀ k ∈ fpOf ρ o.op, m2.get k = m.get k) →
      ∀ K2 : T → Mem → Prop, (∀ m2' : Mem, (∀ k ∈ wrOf P ρ id (byref rl o.dst) o.op, m2'.get k = m'.get k) → (∀ k, k ∉ wrOf P ρ id (byref rl o.dst) o.op → m2'.get k = m2.get k) → K2 v m2') → opA P ρ2 m2 rl id o K2

theorem local_of {rl : List Nat} {id : Nat} {o : Oper} {ρ : List (Nat × T)} {ids wr : List Nat} {F : Mem → (T → Mem → Prop) → Prop} {K : T → Mem → Prop} (hF : FixW ids wr m F) (hwr : wrOf P ρ id (byref rl o.dst) o.op = wr)
    (hids : ∀ k ∈ ids, k ∈ fpOf ρ o.op) (h : F m K) (he : ∀ (ρ2 : List (Nat × T)), (∀ y ∈ o.op.operands.toList, ev ρ2 y = ev ρ y) → ∀ (m2 : Mem) (K2 : T → Mem → Prop), F m2 K2 → opA P ρ2 m2 rl id o K2) :
    ∃ v m', K v m' ∧ Local P rl id o ρ m v m' := by
  obtain ⟨v, m', h1, h2, h3, h4⟩ := hF K h
  subst hwr
  exact ⟨v, m', h1, h2, h3, fun ρ2 m2 hy ha K2 hh => he ρ2 hy m2 K2 (h4 m2 (fun k hk => ha k (hids k hk)) K2 hh)⟩

theorem opA_local {rl : List Nat} {id : Nat} {o : Oper} {ρ : List (Nat × T)} {K : T → Mem → Prop} (h : opA P ρ m rl id o K) : ∃ v m', K v m' ∧ Local P rl id o ρ m v m' := by
  cases hop : o.op with
  | move x =>
    simp only [opA, hop] at h
    refine local_of (ids := []) (F := fun m K => forceT (ev ρ x) fun v => K v m) (FixM.toW (Fix.toM (Fix.force _))) (by simp only [wrOf, hop]) (by simp) h ?_
    intro ρ2 hy m2 K2 hh
    simp only [opA, hop]
    rw [hy x (by simp [hop, Op.operands])]
    exact hh
  | binOp op ty x y yt =>
    simp only [opA, hop] at h
    refine local_of (ids := []) (F := fun m K => binA P op ty x y (ev ρ x) (ev ρ y) fun v => K v m) (FixM.toW (Fix.toM (Fix.bin _ _ _ _ _ _))) (by simp only [wrOf, hop]) (by simp) h ?_
    intro ρ2 hy m2 K2 hh
    simp only [opA, hop]
    rw [hy x (by simp [hop, Op.operands]), hy y (by simp [hop, Op.operands])]
    exact hh
  | store t a x =>
    simp only [opA, hop, forceT_eq] at h
    refine local_of (ids := idsT (ev ρ a)) (FixW.store t (ev ρ a) (ev ρ x)) (by simp only [wrOf, hop]) (by intro k hk; simp [fpOf, hop, Op.operands, hk]) h ?_
    intro ρ2 hy m2 K2 hh
    simp only [opA, hop, forceT_eq]
    rw [hy x (by simp [hop, Op.operands]), hy a (by simp [hop, Op.operands])]
    exact hh
  | load t x =>
    simp only [opA, hop] at h
    refine local_of (ids := idsT (ev ρ x)) (F := fun m K => loadA P m t (ev ρ x) fun v => K v m) (FixM.toW (FixM.load _ _)) (by simp only [wrOf, hop]) (by intro k hk; simp [fpOf, hop, Op.operands, hk]) h ?_
    intro ρ2 hy m2 K2 hh
    simp only [opA, hop]
    rw [hy x (by simp [hop, Op.operands])]
    exact hh
  | assign x =>
    simp only [opA, hop] at h
    refine local_of (ids := []) (F := fun m K => forceT (ev ρ x) fun v => K v m) (FixM.toW (Fix.toM (Fix.force _))) (by simp only [wrOf, hop]) (by simp) h ?_
    intro ρ2 hy m2 K2 hh
    simp only [opA, hop]
    rw [hy x (by simp [hop, Op.operands])]
    exact hh
  | pick c x y =>
    simp only [opA, hop] at h
    refine local_of (ids := []) (F := fun m K => pickA (ev ρ c) (ev ρ x) (ev ρ y) fun v => K v m) (FixM.toW (Fix.toM (Fix.pick _ _ _))) (by simp only [wrOf, hop]) (by simp) h ?_
    intro ρ2 hy m2 K2 hh
    simp only [opA, hop]
    rw [hy c (by simp [hop, Op.operands]), hy x (by simp [hop, Op.operands]), hy y (by simp [hop, Op.operands])]
    exact hh
  | alloc t =>
    simp only [opA, hop] at h
    refine local_of (ids := []) (F := fun m K => allocA P m id t K) (FixW.alloc _ _) (by simp only [wrOf, hop]) (by simp) h ?_
    intro ρ2 hy m2 K2 hh
    simp only [opA, hop]
    exact hh
  | box t x =>
    simp only [opA, hop] at h
    refine local_of (ids := []) (F := fun m K => boxA P m id t (ev ρ x) K) (FixW.box _ _ _) (by simp only [wrOf, hop]) (by simp) h ?_
    intro ρ2 hy m2 K2 hh
    simp only [opA, hop]
    rw [hy x (by simp [hop, Op.operands])]
    exact hh
  | unOp op t x =>
    simp only [opA, hop] at h
    refine local_of (ids := []) (F := fun m K => unA op (ev ρ x) fun v => K v m) (FixM.toW (Fix.toM (Fix.un _ _))) (by simp only [wrOf, hop]) (by simp) h ?_
    intro ρ2 hy m2 K2 hh
    simp only [opA, hop]
    rw [hy x (by simp [hop, Op.operands])]
    exact hh
  | range t x =>
    simp only [opA, hop] at h
    refine local_of (ids := []) (F := fun m K => rangeA P m id t (ev ρ x) K) (FixW.range _ _ _) (by simp only [wrOf, hop]) (by simp) h ?_
    intro ρ2 hy m2 K2 hh
    simp only [opA, hop]
    rw [hy x (by simp [hop, Op.operands])]
    exact hh
  | next x s =>
    simp only [opA, hop] at h
    refine local_of (ids := idsT (ev ρ x)) (F := fun m K => nextA m s (ev ρ x) K) (FixW.next _ _) (by simp only [wrOf, hop]) (by
      intro j hj
      simp only [fpOf, hop, Op.operands]
      simpa using hj) h ?_
    intro ρ2 hy m2 K2 hh
    simp only [opA, hop]
    rw [hy x (by simp [hop, Op.operands])]
    exact hh
  | makeSlice t x y =>
    simp only [opA, hop] at h
    refine local_of (ids := []) (F := fun m K => makeSliceA P m id (byref rl o.dst) t (ev ρ x) (ev ρ y) K) (FixW.makeSlice _ _ _ _ _) (by simp only [wrOf, hop]) (by simp) h ?_
    intro ρ2 hy m2 K2 hh
    simp only [opA, hop]
    rw [hy x (by simp [hop, Op.operands]), hy y (by simp [hop, Op.operands])]
    exact hh
  | fieldAddr t x f =>
    simp only [opA, hop] at h
    refine local_of (ids := []) (F := fun m K => fieldAddrA P t (ev ρ x) f fun v => K v m) (FixM.toW (Fix.toM (Fix.fieldAddr _ _ _))) (by simp only [wrOf, hop]) (by simp) h ?_
    intro ρ2 hy m2 K2 hh
    simp only [opA, hop]
    rw [hy x (by simp [hop, Op.operands])]
    exact hh
  | field t x f =>
    simp only [opA, hop] at h
    refine local_of (ids := []) (F := fun m K => fieldA P t (ev ρ x) f fun v => K v m) (FixM.toW (Fix.toM (Fix.field _ _ _))) (by simp only [wrOf, hop]) (by simp) h ?_
    intro ρ2 hy m2 K2 hh
    simp only [opA, hop]
    rw [hy x (by simp [hop, Op.operands])]
    exact hh
  | index t x y =>
    simp only [opA, hop] at h
    refine local_of (ids := []) (F := fun m K => indexA P t (ev ρ x) (ev ρ y) fun v => K v m) (FixM.toW (Fix.toM (Fix.index _ _ _))) (by simp only [wrOf, hop]) (by simp) h ?_
    intro ρ2 hy m2 K2 hh
    simp only [opA, hop]
    rw [hy x (by simp [hop, Op.operands]), hy y (by simp [hop, Op.operands])]
    exact hh
  | extract x i =>
    simp only [opA, hop] at h
    refine local_of (ids := []) (F := fun m K => extractA (ev ρ x) i fun v => K v m) (FixM.toW (Fix.toM (Fix.extract _ _))) (by simp only [wrOf, hop]) (by simp) h ?_
    intro ρ2 hy m2 K2 hh
    simp only [opA, hop]
    rw [hy x (by simp [hop, Op.operands])]
    exact hh
  | indexAddr t x y =>
    simp only [opA, hop] at h
    refine local_of (ids := idsT (ev ρ x)) (F := fun m K => indexAddrA P m t (ev ρ x) (ev ρ y) fun v => K v m) (FixM.toW (FixM.indexAddr _ _ _)) (by simp only [wrOf, hop]) (by intro k hk; simp [fpOf, hop, Op.operands, hk]) h ?_
    intro ρ2 hy m2 K2 hh
    simp only [opA, hop]
    rw [hy x (by simp [hop, Op.operands]), hy y (by simp [hop, Op.operands])]
    exact hh
  | convert src dst x =>
    simp only [opA, hop] at h
    refine local_of (ids := idsT (ev ρ x)) (FixW.convert id (byref rl o.dst) src dst (ev ρ x)) (by simp only [wrOf, hop]) (by intro k hk; simp [fpOf, hop, Op.operands, hk]) h ?_
    intro ρ2 hy m2 K2 hh
    simp only [opA, hop]
    rw [hy x (by simp [hop, Op.operands])]
    exact hh
  | build t ps =>
    simp only [opA, hop] at h
    refine local_of (ids := []) (F := fun m K => buildA P t (partsOf ρ ps) fun v => K v m) (FixM.toW (Fix.toM (Fix.build _ _))) (by simp only [wrOf, hop]) (by simp) h ?_
    intro ρ2 hy m2 K2 hh
    simp only [opA, hop]
    rw [partsOf_cong (ρ := ρ) (ρ2 := ρ2) (fun y hy' => hy y (by simp only [hop, Op.operands]; exact hy'))]
    exact hh
  | buildSlice t n ps =>
    simp only [opA, hop] at h
    refine local_of (ids := []) (F := fun m K => buildSliceA P m id (byref rl o.dst) t n (partsOf ρ ps) K) (FixW.buildSlice _ _ _ _ _) (by simp only [wrOf, hop]) (by simp) h ?_
    intro ρ2 hy m2 K2 hh
    simp only [opA, hop]
    rw [partsOf_cong (ρ := ρ) (ρ2 := ρ2) (fun y hy' => hy y (by simp only [hop, Op.operands]; exact hy'))]
    exact hh
  | nilCheck x =>
    simp only [opA, hop] at h
    refine local_of (ids := []) (F := fun m K => nilA (ev ρ x) fun v => K v m) (FixM.toW (Fix.toM (Fix.nilA _))) (by simp only [wrOf, hop]) (by simp) h ?_
    intro ρ2 hy m2 K2 hh
    simp only [opA, hop]
    rw [hy x (by simp [hop, Op.operands])]
    exact hh
  | slice t x lo hi mx =>
    simp only [opA, hop] at h
    refine local_of (ids := idsT (ev ρ x)) (F := fun m K => sliceA P m t (ev ρ x) (lo.map (ev ρ)) (hi.map (ev ρ)) (mx.map (ev ρ)) fun v => K v m) (FixM.toW (FixM.slice _ _ _ _ _)) (by simp only [wrOf, hop])
      (by intro k hk; simp [fpOf, hop, Op.operands, hk]) h ?_
    intro ρ2 hy m2 K2 hh
    simp only [opA, hop]
    have e1 : ∀ q : Option Operand, (∀ y ∈ q.toList, y ∈ o.op.operands.toList) → q.map (ev ρ2) = q.map (ev ρ) := by
      intro q hq
      cases q with
      | none => rfl
      | some y => simp [hy y (hq y (by simp))]
    rw [hy x (by simp [hop, Op.operands]), e1 lo (by intro y hy'; simp [hop, Op.operands] at hy' ⊢; simp [hy']), e1 hi (by intro y hy'; simp [hop, Op.operands] at hy' ⊢; simp [hy']), e1 mx (by intro y hy'; simp [hop, Op.operands] at hy' ⊢; simp [hy'])]
    exact hh
  | makeInterface t x =>
    simp only [opA, hop] at h
    refine local_of (ids := []) (F := fun m K => mkIfcA P t (ev ρ x) fun v => K v m) (FixM.toW (Fix.toM (Fix.mkIfc _ _))) (by simp only [wrOf, hop]) (by simp) h ?_
    intro ρ2 hy m2 K2 hh
    simp only [opA, hop]
    rw [hy x (by simp [hop, Op.operands])]
    exact hh
  | typeAssert x xt t ok =>
    simp only [opA, hop] at h
    refine local_of (ids := []) (F := fun m K => typeAsA P (ev ρ x) t ok fun v => K v m) (FixM.toW (Fix.toM (Fix.typeAs _ _ _))) (by simp only [wrOf, hop]) (by simp) h ?_
    intro ρ2 hy m2 K2 hh
    simp only [opA, hop]
    rw [hy x (by simp [hop, Op.operands])]
    exact hh
  | makeFunc fn first caps =>
    simp only [opA, hop] at h
    refine local_of (ids := []) (F := fun m K => makeFuncA fn (first.toList.map (ev ρ)) (caps.toList.map (ev ρ)) fun v => K v m) (FixM.toW (Fix.toM (Fix.makeFunc _ _ _))) (by simp only [wrOf, hop]) (by simp) h ?_
    intro ρ2 hy m2 K2 hh
    simp only [opA, hop]
    have e1 : first.toList.map (ev ρ2) = first.toList.map (ev ρ) := List.map_congr_left fun y hyy => hy y (by simp [hop, Op.operands]; exact .inl (by simpa using hyy))
    have e2 : caps.toList.map (ev ρ2) = caps.toList.map (ev ρ) := List.map_congr_left fun y hyy => hy y (by simp [hop, Op.operands]; exact .inr (by simpa using hyy))
    rw [e1, e2]
    exact hh
  | makeMap t r =>
    simp only [opA, hop] at h
    refine local_of (ids := []) (FixW.makeMap id r.isNone) (by simp only [wrOf, hop]) (by simp) h ?_
    intro ρ2 hy m2 K2 hh
    simp only [opA, hop]
    exact hh
  | lookup t x ix ok =>
    simp only [opA, hop] at h
    refine local_of (ids := idsT (ev ρ x)) (F := fun m K => lookupA P m t (ev ρ x) (ev ρ ix) ok fun v => K v m) (FixM.toW (FixM.lookup _ _ _ _)) (by simp only [wrOf, hop]) (by intro k hk; simp [fpOf, hop, Op.operands, hk]) h ?_
    intro ρ2 hy m2 K2 hh
    simp only [opA, hop]
    rw [hy x (by simp [hop, Op.operands]), hy ix (by simp [hop, Op.operands])]
    exact hh
  | mapUpdate t x k v =>
    simp only [opA, hop] at h
    refine local_of (ids := idsT (ev ρ x)) (FixW.mapUpdate t (ev ρ x) (ev ρ k) (ev ρ v)) (by simp only [wrOf, hop]) (by intro k hk; simp [fpOf, hop, Op.operands, hk]) h ?_
    intro ρ2 hy m2 K2 hh
    simp only [opA, hop]
    rw [hy x (by simp [hop, Op.operands]), hy k (by simp [hop, Op.operands]), hy v (by simp [hop, Op.operands])]
    exact hh
  | call c =>
    have hargs : ∀ y ∈ c.args.toList, y ∈ o.op.operands.toList := by
      intro y hy
      simp only [hop, Op.operands, Call.operands, Array.toList_append, List.mem_append]
      exact .inr hy
    have hmap : ∀ ρ2 : List (Nat × T), (∀ y ∈ o.op.operands.toList, ev ρ2 y = ev ρ y) → c.args.toList.map (ev ρ2) = c.args.toList.map (ev ρ) := by
      intro ρ2 hy
      exact List.map_congr_left fun y hyy => hy y (hargs y hyy)
    have hfp : ∀ k ∈ (c.args.toList.map (ev ρ)).flatMap idsT, k ∈ fpOf ρ o.op := by
      intro k hk
      simp only [List.mem_flatMap, List.mem_map] at hk
      obtain ⟨_, ⟨y, hy, rfl⟩, hk⟩ := hk
      exact List.mem_flatMap.2 ⟨y, hargs y hy, hk⟩
    simp only [opA, hop] at h
    split at h
    · rename_i f hc
      refine local_of (ids := (c.args.toList.map (ev ρ)).flatMap idsT) (F := fun m K => callA P m f (c.args.toList.map (ev ρ)) fun v => K v m) (FixM.toW (FixM.call _ _)) (by simp only [wrOf, hop, hc]) hfp h ?_
      intro ρ2 hy m2 K2 hh
      simp only [opA, hop, hc]
      rw [hmap ρ2 hy]
      exact hh
    · rename_i i hc
      split at h <;> try (exact h.elim)
      rename_i f caps hcl
      obtain ⟨c1, h⟩ := chk_elim h
      have hin : (Operand.tmp i) ∈ o.op.operands.toList := by simp [hop, Op.operands, Call.operands, hc]
      have hfp2 : ∀ k ∈ (c.args.toList.map (ev ρ) ++ caps).flatMap idsT, k ∈ fpOf ρ o.op := by
        intro k hk
        rw [List.flatMap_append] at hk
        rcases List.mem_append.1 hk with hk | hk
        · exact hfp k hk
        · refine List.mem_flatMap.2 ⟨_, hin, ?_⟩
          show k ∈ idsT (look ρ i)
          rw [hcl]
          obtain ⟨t, ht, hkt⟩ := List.mem_flatMap.1 hk
          refine List.mem_flatMap.2 ⟨t, ht, ?_⟩
          have := List.all_eq_true.1 c1 t ht
          cases t <;> first | exact hkt | (simp [noClo] at this; done) | (rename_i tok _ _; cases tok <;> exact hkt)
      refine local_of (ids := (c.args.toList.map (ev ρ) ++ caps).flatMap idsT) (F := fun m K => callA P m f (c.args.toList.map (ev ρ) ++ caps) fun v => K v m) (FixM.toW (FixM.call _ _)) (by simp only [wrOf, hop, hc]) hfp2 h ?_
      intro ρ2 hy m2 K2 hh
      simp only [opA, hop, hc]
      have e : look ρ2 i = look ρ i := hy _ hin
      rw [e, hcl, hmap ρ2 hy]
      exact chk_intro c1 hh
    · rename_i hc
      split at h <;> try (exact h.elim)
      rename_i x t ts harg htys
      refine local_of (ids := idsT (ev ρ x)) (FixW.clear t (ev ρ x)) (by simp only [wrOf, hop, hc, harg]) (by intro k hk; exact hfp k (by simp [harg, hk])) h ?_
      intro ρ2 hy m2 K2 hh
      simp only [opA, hop, hc, harg, htys]
      rw [hy x (hargs x (by simp [harg]))]
      exact hh
    · rename_i hc
      split at h <;> try (exact h.elim)
      rename_i x t ts harg htys
      refine local_of (ids := []) (F := fun m K => lenA P t (ev ρ x) fun v => K v m) (FixM.toW (Fix.toM (Fix.len _ _))) (by simp only [wrOf, hop, hc]) (by simp) h ?_
      intro ρ2 hy m2 K2 hh
      simp only [opA, hop, hc, harg, htys]
      rw [hy x (hargs x (by simp [harg]))]
      exact hh
    · rename_i hc
      split at h <;> try (exact h.elim)
      rename_i x y tx ty harg htys
      refine local_of (ids := idsT (ev ρ x)) (FixW.append id (byref rl o.dst) tx ty (ev ρ x) (ev ρ y)) (by simp only [wrOf, hop, hc, harg]) (by intro k hk; exact hfp k (by simp [harg, hk])) h ?_
      intro ρ2 hy m2 K2 hh
      simp only [opA, hop, hc, harg, htys]
      rw [hy x (hargs x (by simp [harg])), hy y (hargs y (by simp [harg]))]
      exact hh
    · rename_i hc
      split at h <;> try (exact h.elim)
      rename_i x y tx ty harg htys
      refine local_of (ids := idsT (ev ρ x)) (FixW.copy tx ty (ev ρ x) (ev ρ y)) (by simp only [wrOf, hop, hc, harg]) (by intro k hk; exact hfp k (by simp [harg, hk])) h ?_
      intro ρ2 hy m2 K2 hh
      simp only [opA, hop, hc, harg, htys]
      rw [hy x (hargs x (by simp [harg])), hy y (hargs y (by simp [harg]))]
      exact hh
    · rename_i hc
      refine local_of (ids := []) (F := fun m K => mmA true (c.args.toList.map (ev ρ)) fun v => K v m) (FixM.toW (Fix.toM (Fix.mm _ _))) (by simp only [wrOf, hop, hc]) (by simp) h ?_
      intro ρ2 hy m2 K2 hh
      simp only [opA, hop, hc]
      rw [hmap ρ2 hy]
      exact hh
    · rename_i hc
      refine local_of (ids := []) (F := fun m K => mmA false (c.args.toList.map (ev ρ)) fun v => K v m) (FixM.toW (Fix.toM (Fix.mm _ _))) (by simp only [wrOf, hop, hc]) (by simp) h ?_
      intro ρ2 hy m2 K2 hh
      simp only [opA, hop, hc]
      rw [hmap ρ2 hy]
      exact hh
    · exact h.elim
  | _ => simp only [opA, hop] at h
end


/-- All that an operation hangs on, be it a call that changes memory. -/
def LocalJ (P : Program) (rl : List Nat) (id : Nat) (js : List Nat) (o : Oper) (ρ : List (Nat × T)) (m : Mem) (v : T) (m' : Mem) : Prop :=
  (∀ k, k ∉ wrJ P ρ rl id js o → m'.get k = m.get k) ∧
    ∀ (ρ2 : List (Nat × T)) (m2 : Mem), (∀ y ∈ o.op.operands.toList, ev ρ2 y = ev ρ y) → (∀ k ∈ fpJ ρ rl id js o, m2.get k = m.get k) →
      ∀ K2 : T → Mem → Prop, (∀ m2' : Mem, (∀ k ∈ wrJ P ρ rl id js o, m2'.get k = m'.get k) → (∀ k, k ∉ wrJ P ρ rl id js o → m2'.get k = m2.get k) → K2 v m2') → opJ P ρ2 m2 rl id js o K2

theorem hasL_cong {m m2 : Mem} : ∀ {js : List Nat}, hasL m js → (∀ k ∈ js, m2.get k = m.get k) → hasL m2 js
  | [], _, _ => trivial
  | j :: r, h, ha => ⟨by rw [ha j (by simp)]; exact h.1, hasL_cong h.2 fun k hk => ha k (by simp [hk])⟩
theorem memIn_cong {js : List Nat} {m m2 : Mem} (ha : ∀ k ∈ js, m2.get k = m.get k) : ∀ {m0 : Mem}, memIn (asIn js 0) m m0 → memIn (asIn js 0) m2 m0
  | [], _ => trivial
  | (i, b) :: r, h => ⟨⟨h.1.1, by
      obtain ⟨_, h2⟩ := asIn_has js 0 i h.1.1
      rw [ha _ (List.mem_of_getElem? h2)]; exact h.1.2.1, h.1.2.2⟩, memIn_cong ha h.2⟩
theorem memOut_keys {js : List Nat} {id : Nat} : ∀ {m1 mR : Mem}, memOut (asIn (js ++ [id]) 0) m1 mR → ∀ {k : Nat} {b : Blk}, mR.get k = some b → k ∈ js ∨ k = id := by
  intro m1 mR h k b hk
  obtain ⟨i, c, h1, h2, _⟩ := memOut_get h hk
  obtain ⟨_, h3⟩ := asIn_has (js ++ [id]) 0 i h1
  rw [h2] at h3
  have := List.mem_of_getElem? h3
  simpa using this
theorem calleeK_cong {ρ ρ2 : List (Nat × T)} {c : Call} {o : Oper} (hop : o.op = .call c) (hy : ∀ y ∈ o.op.operands.toList, ev ρ2 y = ev ρ y) {K : FuncId → List T → Prop} (h : calleeK ρ c K) : calleeK ρ2 c K := by
  have hmap : c.args.toList.map (ev ρ2) = c.args.toList.map (ev ρ) := by
    refine List.map_congr_left fun y hyy => hy y ?_
    simp only [hop, Op.operands, Call.operands, Array.toList_append, List.mem_append]
    exact .inr hyy
  unfold calleeK at h ⊢
  split at h
  · rename_i f hc
    simp only [hmap]; exact h
  · rename_i i hc
    have e : look ρ2 i = look ρ i := hy (.tmp i) (by simp [hop, Op.operands, Call.operands, hc])
    simp only [hmap, e]; exact h
  · exact h.elim
/-- What a callee's condition comes to. -/
theorem calleeK_get {ρ : List (Nat × T)} {c : Call} {K : FuncId → List T → Prop} (h : calleeK ρ c K) : ∃ f ts, K f ts ∧ ∀ K2 : FuncId → List T → Prop, K2 f ts → calleeK ρ c K2 := by
  unfold calleeK at h ⊢
  split at h
  · exact ⟨_, _, h, fun _ h => h⟩
  · split at h
    · exact ⟨_, _, h, fun _ h => h⟩
    · exact h.elim
  · exact h.elim

theorem opJ_local {P : Program} {rl : List Nat} {id : Nat} {js : List Nat} {o : Oper} {ρ : List (Nat × T)} {m : Mem} {K : T → Mem → Prop} (h : opJ P ρ m rl id js o K) : ∃ v m', K v m' ∧ LocalJ P rl id js o ρ m v m' := by
  unfold opJ at h
  split at h
  · rename_i hc
    unfold callMop at h
    split at h <;> try (exact h.elim)
    rename_i c hop
    obtain ⟨f, ts, h, hcal⟩ := calleeK_get h
    obtain ⟨fn, hfn, c1, c2, ts0, m0, r, m1, mR, oR, hF, ⟨h1, h2, h3, h4, h5, h6, h7, h8⟩, hK⟩ := fnOk_elim h
    rw [delL_eq, putL_eq, forceT_eq] at hK
    have ew : wrJ P ρ rl id js o = id :: js := by unfold wrJ; rw [hc]; rfl
    have ef : fpJ ρ rl id js o = id :: js := by unfold fpJ; rw [hc]; rfl
    refine ⟨_, _, hK, ?_, ?_⟩
    · intro k hk
      rw [ew] at hk
      simp only [List.mem_cons, not_or] at hk
      rw [get_putAll, get_delAll]
      cases e : mR.get k with
      | some b =>
        rcases memOut_keys h8 e with h | h
        · exact absurd h hk.2
        · exact absurd h hk.1
      | none => simp only; rw [if_neg hk.2]
    · intro ρ2 m2 hy ha K2 hh
      rw [ef] at ha
      have hajs : ∀ k ∈ js, m2.get k = m.get k := fun k hk => ha k (by simp [hk])
      unfold opJ
      rw [hc]
      simp only
      unfold callMop
      simp only [hop]
      refine calleeK_cong hop hy (hcal _ ?_)
      unfold fnOk
      simp only [hfn]
      refine chk_intro c1 (chk_intro c2 ⟨ts0, m0, r, m1, mR, oR, hF, ⟨h1, hasL_cong h2 hajs, h3, h4, memIn_cong hajs h5, h6, h7, h8⟩, ?_⟩)
      rw [delL_eq, putL_eq, forceT_eq]
      refine hh _ ?_ ?_
      · intro k hk
        rw [ew] at hk
        rw [get_putAll, get_putAll, get_delAll, get_delAll, ha k hk]
      · intro k hk
        rw [ew] at hk
        simp only [List.mem_cons, not_or] at hk
        rw [get_putAll, get_delAll]
        cases e : mR.get k with
        | some b =>
          rcases memOut_keys h8 e with h | h
          · exact absurd h hk.2
          · exact absurd h hk.1
        | none => simp only; rw [if_neg hk.2]
  · rename_i hc
    obtain ⟨v, m', hK, h1, h2, h3⟩ := opA_local h
    have ew : wrJ P ρ rl id js o = wrOf P ρ id (byref rl o.dst) o.op := by unfold wrJ; rw [hc]; rfl
    have ef : fpJ ρ rl id js o = fpOf ρ o.op := by unfold fpJ; rw [hc]; rfl
    refine ⟨v, m', hK, by rw [ew]; exact h1, fun ρ2 m2 hy ha K2 hh => ?_⟩
    unfold opJ
    rw [hc]
    rw [ef] at ha
    rw [ew] at hh
    exact h3 ρ2 m2 hy ha K2 hh
/-- An operation that panics hangs on the ids that it is handed alone. -/
theorem opXJ_local {P : Program} {js : List Nat} {o : Oper} {ρ : List (Nat × T)} {m : Mem} {KP : Value → Mem → Prop} (h : opXJ P ρ m js o KP) : ∃ v m', KP v m' ∧ (∀ k, k ∉ js → m'.get k = m.get k) ∧ (∀ k ∈ js, m'.get k = none ∨ isPanic o = true) ∧
    ∀ (ρ2 : List (Nat × T)) (m2 : Mem), (∀ y ∈ o.op.operands.toList, ev ρ2 y = ev ρ y) → (∀ k ∈ js, m2.get k = m.get k) →
      ∀ K2 : Value → Mem → Prop, (∀ m2' : Mem, (∀ k, k ∉ js → m2'.get k = m2.get k) → K2 v m2') → opXJ P ρ2 m2 js o K2 := by
  unfold opXJ at h
  split at h
  · rename_i x hop
    split at h <;> try (exact h.elim)
    rename_i t v hx
    refine ⟨_, m, h, fun _ _ => rfl, fun _ _ => .inr (by simp [isPanic, hop]), fun ρ2 m2 hy ha K2 hh => ?_⟩
    unfold opXJ
    simp only [hop]
    rw [hy x (by simp [hop, Op.operands]), hx]
    exact hh m2 fun _ _ => rfl
  · rename_i c hop
    obtain ⟨f, ts, h, hcal⟩ := calleeK_get h
    obtain ⟨fn, hfn, c1, c2, ts0, m0, v0, hF, ⟨h1, h2, h3, h4, h5⟩, hK⟩ := fnOk_elim h
    rw [delL_eq] at hK
    refine ⟨_, _, hK, fun k hk => by rw [get_delAll, if_neg hk], fun k hk => .inl (by rw [get_delAll, if_pos hk]), fun ρ2 m2 hy ha K2 hh => ?_⟩
    unfold opXJ
    simp only [hop]
    refine calleeK_cong hop hy (hcal _ ?_)
    unfold fnOk
    simp only [hfn]
    refine chk_intro c1 (chk_intro c2 ⟨ts0, m0, v0, hF, ⟨h1, hasL_cong h2 ha, h3, h4, memIn_cong ha h5⟩, ?_⟩)
    rw [delL_eq]
    exact hh _ fun k hk => by rw [get_delAll, if_neg hk]
  · exact h.elim
end Go.AW
