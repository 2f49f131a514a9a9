import Derived.Test.YtmobiphgmdigjaaAw19
import Derived.Orders
/- Regions that draw, on: the walk over any order. -/
set_option linter.unusedVariables false
set_option linter.unusedSimpArgs false
namespace Go.AW
open Go

/-- How many are not yet done. -/
def openN (L : Nat → Bool) : Nat → Nat
  | 0 => 0
  | i + 1 => openN L i + (if L i = true then 0 else 1)

theorem openN_zero {L : Nat → Bool} : ∀ {n : Nat}, openN L n = 0 → ∀ j, j < n → L j = true
  | 0, _, j, hj => by omega
  | n + 1, h, j, hj => by
    simp only [openN] at h
    by_cases hL : L n = true
    · by_cases e : j = n
      · subst e; exact hL
      · exact openN_zero (L := L) (n := n) (by omega) j (by omega)
    · simp [hL] at h
theorem openN_none {L : Nat → Bool} : ∀ {n : Nat}, (∀ j, n ≤ j → L j = L j) → openN L n ≤ n
  | 0, _ => by simp [openN]
  | n + 1, _ => by
    have := openN_none (L := L) (n := n) (fun _ _ => rfl)
    simp only [openN]; split <;> omega
theorem openN_same {L : Nat → Bool} {i : Nat} : ∀ {n : Nat}, n ≤ i → openN (fun j => L j || j == i) n = openN L n
  | 0, _ => rfl
  | n + 1, h => by
    have hne : (n == i) = false := by simp; omega
    simp only [openN, hne, Bool.or_false]
    rw [openN_same (by omega)]
theorem openN_set {L : Nat → Bool} {i : Nat} (hi : L i = false) : ∀ {n : Nat}, i < n → openN (fun j => L j || j == i) n + 1 = openN L n
  | 0, h => by omega
  | n + 1, h => by
    simp only [openN]
    by_cases e : n = i
    · subst e
      rw [openN_same (Nat.le_refl _)]
      simp [hi]
    · have hne : (n == i) = false := by simp [e]
      have := openN_set hi (n := n) (by omega)
      simp only [hne, Bool.or_false]
      omega

section
variable {P : Program} {ops : Array Oper} {n : Nat} {rl : List Nat} {x : Nat} {es : List Ent} {tE : List (Nat × T)} {mE : Mem}
variable {G : Gd} {X0 : Xs} {P0 : Pl} {W : Nat → Prop} {w0 : World}

theorem ev_lk {all : Array Oper} {o : Oper} {ρ ρ2 : List (Nat × T)} (h : ∀ k ∈ looksL all o, look ρ2 k = look ρ k) : ∀ y ∈ o.op.operands.toList, ev ρ2 y = ev ρ y := by
  intro y hy
  cases y with
  | tmp t =>
    have : t ∈ looksL all o := by
      unfold looksL
      exact List.mem_append_left _ (List.mem_filterMap.2 ⟨.tmp t, hy, rfl⟩)
    simp only [ev]
    exact h t this
  | _ => rfl

theorem gval_lk {all : Array Oper} {o : Oper} {ρ ρ2 : List (Nat × T)} (h : ∀ k ∈ looksL all o, look ρ2 k = look ρ k) : gval ρ2 all o.guard = gval ρ all o.guard := by
  unfold gval
  cases hg : o.guard with
  | none => rfl
  | some g =>
    obtain ⟨j, w⟩ := g
    simp only
    cases ho : all[j]? with
    | none => rfl
    | some q =>
      simp only
      cases hd : q.dst with
      | none => rfl
      | some d =>
        simp only
        have : d ∈ looksL all o := by
          unfold looksL
          refine List.mem_append_right _ ?_
          simp only [hg, ho, hd, Option.toList_some, List.mem_singleton]
        rw [h d this]

/-- In the midst of a region: what is done, and what it has left. -/
def Mid (G : Gd) (X0 : Xs) (P0 : Pl) (W : Nat → Prop) (w0 : World) (ops : Array Oper) (n x : Nat) (es : List Ent) (tE : List (Nat × T)) (mE : Mem) (D : Nat → Prop) (L : Nat → Bool) (a : Act) (w : World) : Prop :=
  Closed ops L ∧ (∀ j, es.length ≤ j → L j = false) ∧ ∃ tL mL X pl, StG G X0 P0 W w0 tL mL n (fun id => x ≤ id ∧ ∀ j, L j = true → id ≠ x + j) X pl a w ∧
    (∀ k, ¬ D k → look tL k = lastW (dsI es) (fun i k => look (tAt es tE i) k) L es.length k) ∧ (∀ k, mL.get k = lastW (wrI es) (fun i k => (mAt es mE i).get k) L es.length k)

/-- What an operation looks at is as it was in the text's order. -/
theorem agree (hlen : es.length ≤ ops.size) (ht : Told P ops n rl x es tE mE) {L : Nat → Bool} (hc : Closed ops L) (hLn : ∀ j, es.length ≤ j → L j = false) {tL : List (Nat × T)} {mL : Mem} {D : Nat → Prop}
    (hT : ∀ k, ¬ D k → look tL k = lastW (dsI es) (fun i k => look (tAt es tE i) k) L es.length k) (hM : ∀ k, mL.get k = lastW (wrI es) (fun i k => (mAt es mE i).get k) L es.length k)
    {i : Nat} {o : Oper} {r : Rec} (hile : i ≤ es.length) (hi : L i = false) (hb : ∀ e ∈ o.after, Region.binds .any e = true → L e.on = true)
    (hmask : r.mask = maskE (recsOf es [] i) o.after.toList 0) (hok : okRec (recsOf es [] i) r = true) (hDl : ∀ k ∈ r.lk, ¬ D k) (hafter : ∀ j ej, i < j → es[j]? = some ej → L j = true → Apart r ej.r) :
    (∀ j ej, j < i → es[j]? = some ej → L j = true ∨ Apart ej.r r) ∧ (∀ k ∈ r.lk, look tL k = look (tAt es tE i) k) ∧ (∀ k ∈ r.fp, mL.get k = (mAt es mE i).get k) := by
  obtain ⟨g1, g2⟩ := stays hlen ht
  have hmk : ∀ k, Nat.testBit r.mask k = true → L k = true := by
    intro k hk
    rw [hmask] at hk
    rcases maskE_bit hk with h | ⟨ed, hed, hbd, h⟩
    · simp at h
    · have hLe := hb ed (by simpa using hed) hbd
      rcases h with rfl | h
      · exact hLe
      · obtain ⟨q, hq, h1, h2⟩ := maskOf_bit h
        obtain ⟨j, ej, hj, hej, rfl⟩ := recsOf_mem.1 hq
        have hjl : j < es.length := (List.getElem?_eq_some_iff.1 hej).1
        obtain ⟨ej', hej', qj⟩ := ht j _ hjl (Array.getElem?_eq_getElem (by omega : j < ops.size))
        obtain rfl : ej' = ej := by rw [hej] at hej'; exact (Option.some.inj hej').symm
        have hij : j = ed.on := by rw [← h1, qj.num]; omega
        subst hij
        exact mask_in ht hc _ _ _ (Array.getElem?_eq_getElem (by omega)) hej (hc _ _ (Array.getElem?_eq_getElem (by omega)) hLe) k h2
  have before : ∀ j ej, j < i → es[j]? = some ej → L j = true ∨ Apart ej.r r := by
    intro j ej hj hej
    rcases okRec_mem hok (recsOf_mem.2 ⟨j, ej, hj, hej, rfl⟩) with h | h
    · obtain ⟨ej', hej', qj⟩ := ht j _ (by omega) (Array.getElem?_eq_getElem (by omega : j < ops.size))
      obtain rfl : ej' = ej := by rw [hej] at hej'; exact (Option.some.inj hej').symm
      have : ej'.r.i = j := by rw [qj.num]; omega
      rw [this] at h
      exact .inl (hmk j h)
    · exact .inr h
  have ex : ∀ j, j < es.length → ∃ ej, es[j]? = some ej := fun j hj => ⟨_, List.getElem?_eq_getElem hj⟩
  refine ⟨before, ?_, ?_⟩
  · intro k hk
    rw [hT k (hDl k hk)]
    refine lastW_eq (dsI es) (fun i k => look (tAt es tE i) k) (fun i k hk => g1 i k hk) L k es.length i hile ?_
    intro j hj hkj
    obtain ⟨ej, hej⟩ := ex j hj
    rw [dsI_some hej] at hkj
    rcases Nat.lt_trichotomy j i with hji | rfl | hji
    · rcases before j ej hji hej with h | h
      · exact ⟨fun _ => hji, fun _ => h⟩
      · exact (h.dl k hkj hk).elim
    · exact ⟨fun h => (by rw [hi] at h; cases h), fun h => by omega⟩
    · refine ⟨fun h => ((hafter j ej hji hej h).ld k hkj hk).elim, fun h => by omega⟩
  · intro k hk
    rw [hM k]
    refine lastW_eq (wrI es) (fun i k => (mAt es mE i).get k) (fun i k hk => g2 i k hk) L k es.length i hile ?_
    intro j hj hkj
    obtain ⟨ej, hej⟩ := ex j hj
    rw [wrI_some hej] at hkj
    rcases Nat.lt_trichotomy j i with hji | rfl | hji
    · rcases before j ej hji hej with h | h
      · exact ⟨fun _ => hji, fun _ => h⟩
      · exact (h.wf k hkj hk).elim
    · exact ⟨fun h => (by rw [hi] at h; cases h), fun h => by omega⟩
    · refine ⟨fun h => ((hafter j ej hji hej h).fw k hkj hk).elim, fun h => by omega⟩

theorem Mid.step (hlen : es.length ≤ ops.size) (ht : Told P ops n rl x es tE mE) {D : Nat → Prop} (hDes : ∀ (i : Nat) (e : Ent), es[i]? = some e → ∀ k ∈ e.r.lk, ¬ D k) {L : Nat → Bool} {a : Act} {w : World} (h : Mid G X0 P0 W w0 ops n x es tE mE D L a w) {i : Nat} {o : Oper} (hlt : i < es.length) (ho : ops[i]? = some o) (hi : L i = false)
    (hb : ∀ e ∈ o.after, Region.binds .any e = true → L e.on = true) {Q : Exit → Act → World → Prop} {K : Act → World → Prop} (hK : ∀ a w, Mid G X0 P0 W w0 ops n x es tE mE D (fun j => L j || j == i) a w → K a w) : wpOp P ops Q i K a w := by
  obtain ⟨hc, hLn, tL, mL, X, pl, hs, hT, hM⟩ := h
  obtain ⟨e, he, q⟩ := ht i o hlt ho
  have hni : e.r.i = i := by rw [q.num]; omega
  have after : ∀ j ej, i < j → es[j]? = some ej → L j = true → Apart e.r ej.r := by
    intro j ej hj hej hL
    have hjl : j < es.length := (List.getElem?_eq_some_iff.1 hej).1
    have hjn : j < ops.size := by omega
    obtain ⟨ej', hej', qj⟩ := ht j _ hjl (Array.getElem?_eq_getElem hjn)
    obtain rfl : ej' = ej := by rw [hej] at hej'; exact (Option.some.inj hej').symm
    rcases okRec_mem qj.ok (recsOf_mem.2 ⟨i, e, hj, he, rfl⟩) with h | h
    · have := mask_in ht hc j _ _ (Array.getElem?_eq_getElem hjn) hej (hc j _ (Array.getElem?_eq_getElem hjn) hL) e.r.i h
      rw [hni, hi] at this; cases this
    · exact h
  have ex : ∀ j, j < es.length → ∃ ej, es[j]? = some ej := fun j hj => ⟨_, List.getElem?_eq_getElem hj⟩
  obtain ⟨_, agreeT, agreeM⟩ := agree hlen ht hc hLn hT hM (Nat.le_of_lt hlt) hi hb q.mask q.ok (hDes i e he) after
  rw [tAt_some he] at agreeT
  rw [mAt_some he] at agreeM
  have hTn : ∀ tv, tv = e.v → ∀ k, ¬ D k → look (putO tL o.dst tv) k = lastW (dsI es) (fun i k => look (tAt es tE i) k) (fun j => L j || j == i) es.length k := by
    rintro tv rfl k hDk
    rw [lastW_add (dsI es) (fun i k => look (tAt es tE i) k) L i k ?_ es.length, look_putO, ← hT k hDk]
    · simp only [hlt, true_and, dsI_some he, q.ds]
      by_cases hk : k ∈ o.dst.toList
      · simp only [hk, if_true]
        rw [q.tnext, look_putO, if_pos hk]
      · simp only [hk, if_false]
    · intro hk j hL hkj
      rcases Nat.lt_trichotomy j i with hji | rfl | hji
      · exact hji
      · rw [hi] at hL; cases hL
      · by_cases hj : j < es.length
        · obtain ⟨ej, hej⟩ := ex j hj
          rw [dsI_some hej] at hkj
          rw [dsI_some he] at hk
          exact ((after j ej hji hej hL).dd k hkj hk).elim
        · have : es[j]? = none := List.getElem?_eq_none (by omega)
          simp [dsI, this] at hkj
  have hMn : ∀ m' : Mem, (∀ k ∈ e.r.wr, m'.get k = e.m'.get k) → (∀ k, k ∉ e.r.wr → m'.get k = mL.get k) →
      ∀ k, m'.get k = lastW (wrI es) (fun i k => (mAt es mE i).get k) (fun j => L j || j == i) es.length k := by
    intro m' h1 h2 k
    rw [lastW_add (wrI es) (fun i k => (mAt es mE i).get k) L i k ?_ es.length, ← hM k]
    · simp only [hlt, true_and, wrI_some he]
      by_cases hk : k ∈ e.r.wr
      · simp only [hk, if_true]
        rw [h1 k hk, q.mnext]
      · simp only [hk, if_false]
        exact h2 k hk
    · intro hk j hL hkj
      rcases Nat.lt_trichotomy j i with hji | rfl | hji
      · exact hji
      · rw [hi] at hL; cases hL
      · by_cases hj : j < es.length
        · obtain ⟨ej, hej⟩ := ex j hj
          rw [wrI_some hej] at hkj
          rw [wrI_some he] at hk
          exact ((after j ej hji hej hL).ww k hkj hk).elim
        · have : es[j]? = none := List.getElem?_eq_none (by omega)
          simp [wrI, this] at hkj
  have hcn : Closed ops (fun j => L j || j == i) := by
    intro j oj hoj hL ed hed hbd
    simp only [Bool.or_eq_true, beq_iff_eq] at hL ⊢
    rcases hL with hL | rfl
    · exact .inl (hc j oj hoj hL ed hed hbd)
    · obtain rfl : oj = o := by rw [ho] at hoj; exact (Option.some.inj hoj).symm
      exact .inl (hb ed hed hbd)
  have hLn2 : ∀ j, es.length ≤ j → (L j || j == i) = false := by
    intro j hj
    rw [hLn j hj, Bool.false_or, beq_eq_false_iff_ne]
    omega
  have hlk : ∀ k ∈ looksL ops o, look tL k = look e.t k := by rw [← q.lk]; exact agreeT
  have hg : Region.wanted o (yielded ops a.tmps) = e.go := gval_wanted hs.env (by rw [gval_lk hlk]; exact q.gv)
  unfold wpOp
  simp only [ho, hg]
  cases hgo : e.go with
  | true =>
    simp only [if_true]
    obtain ⟨y1, y2, y3⟩ := q.yes hgo
    rw [Nat.zero_add] at y1 y2 y3
    have hop := y3.2 tL mL (ev_lk hlk) (by rw [← y1]; exact agreeM) (fun v m2' => v = e.v ∧ (∀ k ∈ e.r.wr, m2'.get k = e.m'.get k) ∧ (∀ k, k ∉ e.r.wr → m2'.get k = mL.get k))
      (fun m2' h1 h2 => ⟨rfl, by rw [y2]; exact h1, by rw [y2]; exact h2⟩)
    refine .inl (opJ_ok hop hs.env hs.mem (hs.next _ ⟨by omega, fun j hj e => ?_⟩) (fun b hb => hs.fresh b (Nat.le_trans hs.ext.size hb)) ?_)
    · have : j = i := by omega
      subst this
      rw [hi] at hj; cases hj
    · rintro v tv m' w' ⟨k1, k2, k3⟩ hst
      refine hK _ _ ?_
      obtain ⟨X', pl', hs'⟩ := hs.put hst (N' := fun id => x ≤ id ∧ ∀ j, (L j || j == i) = true → id ≠ x + j) (fun id hid => ⟨⟨hid.1, fun j hj => hid.2 j (by simp [hj])⟩, by
        have := hid.2 i (by simp)
        cases (isNew o.op || mcall rl o)
        · simp
        · simp only [if_true, ne_eq, Option.some.injEq]; exact fun e => this e.symm⟩) q.dst
      exact ⟨hcn, hLn2, _, _, X', pl', hs', hTn tv k1, hMn m' k2 k3⟩
  | false =>
    simp only [Bool.false_eq_true, if_false]
    obtain ⟨y1, y2, y3, y4⟩ := q.no hgo
    refine hK _ _ ?_
    obtain ⟨X', pl', hs'⟩ := hs.put (StepOk.same hs.mem none (VRel.lit undef)) (N' := fun id => x ≤ id ∧ ∀ j, (L j || j == i) = true → id ≠ x + j) (fun id hid => ⟨⟨hid.1, fun j hj => hid.2 j (by simp [hj])⟩, by simp⟩) q.dst
    exact ⟨hcn, hLn2, _, _, X', pl', hs', hTn _ y3.symm, hMn mL (by rw [y2]; simp) (fun _ _ => rfl)⟩

theorem dropT_elim {rs : List Rec} : ∀ {t : List (Nat × T)} {K : List (Nat × T) → Prop}, dropT rs t K → ∃ t', K t' ∧ ∀ k, look t' k = if setB rs k = true then .dead else look t k
  | [], K, h => ⟨[], h, fun k => by simp [look]⟩
  | (j, v) :: r, K, h => by
    simp only [dropT] at h
    cases e : setB rs j with
    | true =>
      rw [e] at h
      obtain ⟨t', h1, h2⟩ := dropT_elim (t := r) (K := K) h
      refine ⟨t', h1, fun k => ?_⟩
      rw [h2 k]
      by_cases hk : setB rs k = true
      · rw [if_pos hk, if_pos hk]
      · rw [if_neg hk, if_neg hk]
        have hne : j ≠ k := fun e2 => by subst e2; exact hk e
        simp [look, beq_ne hne]
    | false =>
      rw [e] at h
      obtain ⟨t', h1, h2⟩ := dropT_elim (t := r) (K := fun r' => K ((j, v) :: r')) h
      refine ⟨_, h1, fun k => ?_⟩
      simp only [look]
      cases ej : Nat.beq j k with
      | true =>
        obtain rfl := Nat.eq_of_beq_eq_true ej
        rw [if_neg (by rw [e]; exact Bool.false_ne_true)]; rfl
      | false => exact h2 k
theorem dropM_elim {rs : List Rec} : ∀ {m : Mem} {K : Mem → Prop}, dropM rs m K → ∃ m', K m' ∧ ∀ k, m'.get k = if wrB rs k = true then none else m.get k
  | [], K, h => ⟨[], h, fun k => by simp [Mem.get]⟩
  | (j, v) :: r, K, h => by
    simp only [dropM] at h
    cases e : wrB rs j with
    | true =>
      rw [e] at h
      obtain ⟨t', h1, h2⟩ := dropM_elim (m := r) (K := K) h
      refine ⟨t', h1, fun k => ?_⟩
      rw [h2 k]
      by_cases hk : wrB rs k = true
      · rw [if_pos hk, if_pos hk]
      · rw [if_neg hk, if_neg hk]
        have hne : j ≠ k := fun e2 => by subst e2; exact hk e
        simp [Mem.get, beq_ne hne]
    | false =>
      rw [e] at h
      obtain ⟨t', h1, h2⟩ := dropM_elim (m := r) (K := fun r' => K ((j, v) :: r')) h
      refine ⟨_, h1, fun k => ?_⟩
      simp only [Mem.get]
      cases ej : Nat.beq j k with
      | true =>
        obtain rfl := Nat.eq_of_beq_eq_true ej
        rw [if_neg (by rw [e]; exact Bool.false_ne_true)]; rfl
      | false => exact h2 k
theorem setB_iff {rs : List Rec} {k : Nat} : setB rs k = true ↔ ∃ r ∈ rs, k ∈ r.ds := by
  induction rs with
  | nil => simp [setB]
  | cons r rs ih =>
    simp only [setB, List.mem_cons, exists_eq_or_imp]
    cases e : memB r.ds k with
    | true => simp [memB_iff.1 e]
    | false =>
      have : k ∉ r.ds := fun h => by rw [memB_iff.2 h] at e; cases e
      simp [this, ih]
theorem wrB_iff {rs : List Rec} {k : Nat} : wrB rs k = true ↔ ∃ r ∈ rs, k ∈ r.wr := by
  induction rs with
  | nil => simp [wrB]
  | cons r rs ih =>
    simp only [wrB, List.mem_cons, exists_eq_or_imp]
    cases e : memB r.wr k with
    | true => simp [memB_iff.1 e]
    | false =>
      have : k ∉ r.wr := fun h => by rw [memB_iff.2 h] at e; cases e
      simp [this, ih]

theorem loadB_load {o : Oper} (h : loadB o = true) : (∃ t a, o.op = .load t a) ∧ o.guard = none ∧ o.after.toList = [] := by
  unfold loadB at h
  split at h
  · rename_i h1 h2 h3; exact ⟨⟨_, _, h1⟩, h2, h3⟩
  · cases h
theorem opJ_load {o : Oper} (h : loadB o = true) {ρ : List (Nat × T)} {m : Mem} {id id' : Nat} {K : T → Mem → Prop} (hj : opJ P ρ m [] id [] o K) : opJ P ρ m [] id' [] o K := by
  obtain ⟨⟨t, y, e⟩, _, _⟩ := loadB_load h
  unfold opJ mcall opA at hj ⊢
  simp only [e] at hj ⊢
  exact hj
theorem mcall_load {o : Oper} (h : loadB o = true) {r : List Nat} : mcall r o = false ∧ isNew o.op = false := by
  obtain ⟨⟨t, y, e⟩, _, _⟩ := loadB_load h
  exact ⟨by simp [mcall, e], by simp [isNew, e]⟩
/-- The loads behind an operation that panics. -/
theorem harmK_elim {t : List (Nat × T)} {m : Mem} : ∀ {l : List Oper} {rs : List Rec} {K : List Rec → Prop}, harmK P ops n t m l rs K → ∃ hs : List Rec, K (hs ++ rs) ∧ (∀ r ∈ hs, r.wr = [] ∧ ∀ q ∈ rs, Apart q r) ∧ (∀ r ∈ hs, ∀ q ∈ hs, ∀ k ∈ r.ds, k ∉ q.lk) ∧
    ∀ (j : Nat) (o : Oper), l[j]? = some o → loadB o = true → ∃ r ∈ hs, r.lk = looksL ops o ∧ r.ds = o.dst.toList ∧ r.fp = fpOf t o.op ∧ (∀ d, o.dst = some d → d < n) ∧ ∃ v m', LocalJ P [] 0 [] o t m v m'
  | [], rs, K, h => ⟨[], h, by simp, by simp, by simp⟩
  | o :: l, rs, K, h => by
    have e : harmK P ops n t m (o :: l) rs K = (match loadB o with
      | true => forceL (looksL ops o) fun lk => forceL (fpOf t o.op) fun fp => chk (dstB n o.dst && disjB o.dst.toList lk && okRec rs ⟨0, 0, lk, o.dst.toList, fp, []⟩) <| opJ P t m [] 0 [] o fun _ _ => harmK P ops n t m l (⟨0, 0, lk, o.dst.toList, fp, []⟩ :: rs) K
      | false => harmK P ops n t m l rs K) := rfl
    rw [e] at h
    cases hl : loadB o with
    | true =>
      rw [hl] at h
      simp only [forceL_eq] at h
      obtain ⟨hok, h⟩ := chk_elim h
      simp only [Bool.and_eq_true] at hok
      obtain ⟨⟨ok1, ok2⟩, ok3⟩ := hok
      obtain ⟨v, m', h, hloc⟩ := opJ_local h
      obtain ⟨hs, g1, g2, g3, g4⟩ := harmK_elim h
      have own : ∀ q ∈ rs, Apart q ⟨0, 0, looksL ops o, o.dst.toList, fpOf t o.op, []⟩ := fun q hq => (okRec_mem ok3 hq).resolve_left (by simp)
      refine ⟨hs ++ [⟨0, 0, looksL ops o, o.dst.toList, fpOf t o.op, []⟩], by rw [List.append_assoc]; exact g1, ?_, ?_, ?_⟩
      · intro r hr
        rcases List.mem_append.1 hr with hr | hr
        · exact ⟨(g2 r hr).1, fun q hq => (g2 r hr).2 q (List.mem_cons_of_mem _ hq)⟩
        · obtain rfl := List.mem_singleton.1 hr
          exact ⟨rfl, own⟩
      · intro r hr q hq k hk
        rcases List.mem_append.1 hr with hr | hr
        · rcases List.mem_append.1 hq with hq | hq
          · exact g3 r hr q hq k hk
          · obtain rfl := List.mem_singleton.1 hq
            exact fun hk2 => ((g2 r hr).2 _ List.mem_cons_self).ld k hk hk2
        · obtain rfl := List.mem_singleton.1 hr
          rcases List.mem_append.1 hq with hq | hq
          · exact fun hk2 => ((g2 q hq).2 _ List.mem_cons_self).dl k hk hk2
          · obtain rfl := List.mem_singleton.1 hq
            exact fun hk2 => disjB_not ok2 hk hk2
      · intro j o' hj ho'
        cases j with
        | zero =>
          simp only [List.getElem?_cons_zero, Option.some.injEq] at hj
          subst hj
          refine ⟨_, List.mem_append_right _ (List.mem_singleton.2 rfl), rfl, rfl, rfl, ?_, v, m', hloc⟩
          intro d hd
          rw [hd] at ok1
          exact Nat.le_of_ble_eq_true (show Nat.ble (d + 1) n = true from ok1)
        | succ j =>
          obtain ⟨r, hr, k1⟩ := g4 j o' (by simpa using hj) ho'
          exact ⟨r, List.mem_append_left _ hr, k1⟩
    | false =>
      rw [hl] at h
      obtain ⟨hs, g1, g2, g3, g4⟩ := harmK_elim h
      refine ⟨hs, g1, g2, g3, ?_⟩
      intro j o' hj ho'
      cases j with
      | zero =>
        simp only [List.getElem?_cons_zero, Option.some.injEq] at hj
        subst hj
        rw [hl] at ho'; cases ho'
      | succ j => exact g4 j o' (by simpa using hj) ho'
/-- Such a load is done. -/
theorem Mid.load (hlen : es.length ≤ ops.size) (ht : Told P ops n rl x es tE mE) {D : Nat → Prop} {L : Nat → Bool} {a : Act} {w : World} (h : Mid G X0 P0 W w0 ops n x es tE mE D L a w) {i : Nat} {o : Oper} {r : Rec} (hge : es.length ≤ i) (ho : ops[i]? = some o) (hl : loadB o = true)
    (hlk : r.lk = looksL ops o) (hfp : r.fp = fpOf tE o.op) (hds : ∀ k ∈ o.dst.toList, D k) (hd : ∀ d, o.dst = some d → d < n) (hap : ∀ q ∈ recsOf es [] es.length, Apart q r) (hDl : ∀ k ∈ r.lk, ¬ D k) {v0 : T} {m0 : Mem} (hloc : LocalJ P [] 0 [] o tE mE v0 m0)
    {Q : Exit → Act → World → Prop} {K : Act → World → Prop} (hK : ∀ a w, Mid G X0 P0 W w0 ops n x es tE mE D L a w → K a w) : wpOp P ops Q i K a w := by
  obtain ⟨hc, hLn, tL, mL, X, pl, hs, hT, hM⟩ := h
  obtain ⟨g1, g2⟩ := stays hlen ht
  have eN : es[es.length]? = none := List.getElem?_eq_none (Nat.le_refl _)
  have etE : tAt es tE es.length = tE := by simp [tAt, eN]
  have emE : mAt es mE es.length = mE := by simp [mAt, eN]
  have recs : ∀ (j : Nat) (ej : Ent), es[j]? = some ej → ej.r ∈ recsOf es [] es.length := fun j ej hej => recsOf_mem.2 ⟨j, ej, (List.getElem?_eq_some_iff.1 hej).1, hej, rfl⟩
  have aT : ∀ k ∈ r.lk, look tL k = look tE k := by
    intro k hk
    rw [hT k (hDl k hk)]
    refine (lastW_eq (dsI es) (fun i k => look (tAt es tE i) k) (fun i k hk => g1 i k hk) L k es.length es.length (Nat.le_refl _) fun j hj hkj => ?_).trans (congrArg (fun z => look z k) etE)
    obtain ⟨ej, hej⟩ : ∃ ej, es[j]? = some ej := ⟨_, List.getElem?_eq_getElem hj⟩
    rw [dsI_some hej] at hkj
    exact ((hap _ (recs j ej hej)).dl k hkj hk).elim
  have aM : ∀ k ∈ r.fp, mL.get k = mE.get k := by
    intro k hk
    rw [hM k]
    refine (lastW_eq (wrI es) (fun i k => (mAt es mE i).get k) (fun i k hk => g2 i k hk) L k es.length es.length (Nat.le_refl _) fun j hj hkj => ?_).trans (congrArg (fun z : Mem => z.get k) emE)
    obtain ⟨ej, hej⟩ : ∃ ej, es[j]? = some ej := ⟨_, List.getElem?_eq_getElem hj⟩
    rw [wrI_some hej] at hkj
    exact ((hap _ (recs j ej hej)).wf k hkj hk).elim
  rw [hlk] at aT
  obtain ⟨mc, nw⟩ := mcall_load (r := []) hl
  have efp : fpJ tE [] 0 [] o = fpOf tE o.op := by unfold fpJ; rw [mc]; rfl
  have ewr : wrJ P tE [] 0 [] o = [] := by
    obtain ⟨⟨t, y, e⟩, _, _⟩ := loadB_load hl
    unfold wrJ; rw [mc]; simp only [cond_false, e]; rfl
  have hg : Region.wanted o (yielded ops a.tmps) = true := by
    obtain ⟨_, e, _⟩ := loadB_load hl
    simp [Region.wanted, e]
  have hop := hloc.2 tL mL (ev_lk aT) (by rw [efp, ← hfp]; exact aM) (fun v m2 => v = v0 ∧ ∀ k, m2.get k = mL.get k) (fun m2 _ h2 => ⟨rfl, fun k => h2 k (by rw [ewr]; simp)⟩)
  unfold wpOp
  simp only [ho, hg, if_true]
  refine .inl (opJ_ok (id := x + i) (opJ_load hl hop) hs.env hs.mem (hs.next _ ⟨by omega, fun j hj e => ?_⟩) (fun b hb => hs.fresh b (Nat.le_trans hs.ext.size hb)) ?_)
  · have : j = i := by omega
    subst this
    rw [hLn j hge] at hj; cases hj
  · rintro v tv m' w' ⟨rfl, k3⟩ hst
    rw [mc, nw] at hst
    simp only [Bool.or_self, Bool.false_eq_true, if_false] at hst
    refine hK _ _ ?_
    obtain ⟨X', pl', hs'⟩ := hs.put hst (N' := fun id => x ≤ id ∧ ∀ j, L j = true → id ≠ x + j) (fun id hid => ⟨hid, by simp⟩) hd
    refine ⟨hc, hLn, _, _, X', pl', hs', fun k hk => ?_, fun k => (k3 k).trans (hM k)⟩
    rw [look_putO, if_neg (fun h => hk (hds k h))]
    exact hT k hk

/-- The operation that panics, whatever was done ahead of it. -/
theorem Mid.pan (hlen : es.length ≤ ops.size) (ht : Told P ops n rl x es tE mE) {L : Nat → Bool} {a : Act} {w : World} {hs0 : List Rec} (h : Mid G X0 P0 W w0 ops n x es tE mE (fun k => ∃ r ∈ hs0, k ∈ r.ds) L a w) {KP : Value → List (Nat × T) → Mem → Prop} {o : Oper}
    {js : List Nat} {r : Rec} {v : Value} {m' : Mem} (hmask : r.mask = maskE (recsOf es [] es.length) o.after.toList 0) (hlk : r.lk = looksL ops o) (hfp : r.fp = js) (hok : okRec (recsOf es [] es.length) r = true) (hgv : gval tE ops o.guard = some true)
    (hDlk : ∀ q ∈ hs0, ∀ k ∈ q.ds, k ∉ r.lk) (hwr0 : ∀ q ∈ hs0, q.wr = [])
    (hKP : dropT (hs0 ++ ⟨es.length, 0, r.lk, [], [], []⟩ :: recsOf es [] es.length) tE fun t' => dropM (hs0 ++ ⟨es.length, 0, r.lk, [], [], []⟩ :: recsOf es [] es.length) m' fun m' => KP v t' m')
    (hfr : ∀ k, k ∉ js → m'.get k = mE.get k) (hnone : ∀ k ∈ js, m'.get k = none)
    (hloc : ∀ (ρ2 : List (Nat × T)) (m2 : Mem), (∀ y ∈ o.op.operands.toList, ev ρ2 y = ev tE y) → (∀ k ∈ js, m2.get k = mE.get k) → ∀ K2 : Value → Mem → Prop, (∀ m2' : Mem, (∀ k, k ∉ js → m2'.get k = m2.get k) → K2 v m2') → opXJ P ρ2 m2 js o K2)
    (ho : ops[es.length]? = some o)
    (hb : ∀ e ∈ o.after, Region.binds .any e = true → L e.on = true) {Q : Exit → Act → World → Prop} {K : Act → World → Prop}
    (hQ : ∀ v t m X pl a w, KP v t m → St G X0 P0 W w0 t m n (x + ops.size) X pl a w → Q (.panic [{ v := v, recovered := false }]) a w) : wpOp P ops Q es.length K a w := by
  obtain ⟨hc, hLn, tL, mL, X, pl, hs, hT, hM⟩ := h
  have eset : ∀ k, setB (hs0 ++ ⟨es.length, 0, r.lk, [], [], []⟩ :: recsOf es [] es.length) k = true ↔ (∃ q ∈ hs0, k ∈ q.ds) ∨ setB (recsOf es [] es.length) k = true := by
    intro k
    rw [setB_iff, setB_iff]
    constructor
    · rintro ⟨q, hq, hk⟩
      rcases List.mem_append.1 hq with hq | hq
      · exact .inl ⟨q, hq, hk⟩
      · rcases List.mem_cons.1 hq with rfl | hq
        · cases hk
        · exact .inr ⟨q, hq, hk⟩
    · rintro (⟨q, hq, hk⟩ | ⟨q, hq, hk⟩)
      · exact ⟨q, List.mem_append_left _ hq, hk⟩
      · exact ⟨q, List.mem_append_right _ (List.mem_cons_of_mem _ hq), hk⟩
  have ewr : ∀ k, wrB (hs0 ++ ⟨es.length, 0, r.lk, [], [], []⟩ :: recsOf es [] es.length) k = true ↔ wrB (recsOf es [] es.length) k = true := by
    intro k
    rw [wrB_iff, wrB_iff]
    constructor
    · rintro ⟨q, hq, hk⟩
      rcases List.mem_append.1 hq with hq | hq
      · rw [hwr0 q hq] at hk; cases hk
      · rcases List.mem_cons.1 hq with rfl | hq
        · cases hk
        · exact ⟨q, hq, hk⟩
    · rintro ⟨q, hq, hk⟩
      exact ⟨q, List.mem_append_right _ (List.mem_cons_of_mem _ hq), hk⟩
  have eN : es[es.length]? = none := List.getElem?_eq_none (Nat.le_refl _)
  have hN : L es.length = false := hLn _ (Nat.le_refl _)
  obtain ⟨_, agreeT, agreeM⟩ := agree hlen ht hc hLn hT hM (Nat.le_refl _) hN hb hmask hok (fun k hk ⟨q, hq, hkq⟩ => hDlk q hq k hkq hk) (fun j ej hj hej _ => by
    have := (List.getElem?_eq_some_iff.1 hej).1; omega)
  have etE : tAt es tE es.length = tE := by simp [tAt, eN]
  have emE : mAt es mE es.length = mE := by simp [mAt, eN]
  rw [etE, hlk] at agreeT
  rw [emE, hfp] at agreeM
  obtain ⟨g1, g2⟩ := stays hlen ht
  have hlt : es.length < ops.size := (Array.getElem?_eq_some_iff.1 ho).1
  have hg : Region.wanted o (yielded ops a.tmps) = true := gval_wanted hs.env (by rw [gval_lk agreeT]; exact hgv)
  obtain ⟨t', hKP, ht'⟩ := dropT_elim hKP
  obtain ⟨m2, hKP, hm2⟩ := dropM_elim hKP
  have recs : ∀ (j : Nat) (ej : Ent), es[j]? = some ej → ej.r ∈ recsOf es [] es.length := fun j ej hej => recsOf_mem.2 ⟨j, ej, (List.getElem?_eq_some_iff.1 hej).1, hej, rfl⟩
  unfold wpOp
  simp only [ho, hg, if_true]
  have hop := hloc tL mL (ev_lk agreeT) agreeM (fun v2 m2' => v2 = v ∧ ∀ k, k ∉ js → m2'.get k = mL.get k) (fun m2' h => ⟨rfl, h⟩)
  refine .inl (opXJ_ok (id := x + es.length) hop hs.env hs.mem (hs.next _ ⟨by omega, fun j hj e => ?_⟩) (fun b hb => hs.fresh b (Nat.le_trans hs.ext.size hb)) ?_)
  · have : j = es.length := by omega
    subst this
    rw [hN] at hj; cases hj
  · rintro v2 m3 w' u ⟨rfl, hm3⟩ hst
    obtain ⟨X', pl', hs'⟩ := hs.put hst (d := none) (N' := fun id => x + ops.size ≤ id) (fun id hid => ⟨⟨by omega, fun j hj e => by
        have hjl : j < es.length := by
          rcases Nat.lt_or_ge j es.length with h | h
          · exact h
          · rw [hLn j h] at hj; cases hj
        omega⟩, fun e => by cases e; omega⟩) (by simp)
    refine hQ v2 t' m2 X' pl' _ w' hKP ⟨?_, ?_, hs'.size, hs'.next, hs'.ext, hs'.mono, hs'.news, hs'.fresh, hs'.calm, hs'.pm, hs'.cap⟩
    · intro k
      rw [ht' k]
      by_cases hk : setB (hs0 ++ ⟨es.length, 0, r.lk, [], [], []⟩ :: recsOf es [] es.length) k = true
      · rw [if_pos hk]; exact .dead _
      · rw [if_neg hk]
        rw [eset k, not_or] at hk
        obtain ⟨hDk, hk⟩ := hk
        have h1 := hs'.env k
        have h2 : look (putO tL none T.dead) k = look tE k := by
          show look tL k = _
          rw [hT k hDk]
          refine (lastW_eq (dsI es) (fun i k => look (tAt es tE i) k) (fun i k hk => g1 i k hk) L k es.length es.length (Nat.le_refl _) fun j hj hkj => ?_).trans (congrArg (fun z => look z k) etE)
          obtain ⟨ej, hej⟩ : ∃ ej, es[j]? = some ej := ⟨_, List.getElem?_eq_getElem hj⟩
          rw [dsI_some hej] at hkj
          exact absurd (setB_iff.2 ⟨_, recs j ej hej, hkj⟩) hk
        rw [h2] at h1
        exact h1
    · refine ⟨?_, hs'.mem.placed, hs'.mem.apart, hs'.mem.xin, hs'.mem.glob⟩
      intro id b hg2
      rw [hm2 id] at hg2
      by_cases hk : wrB (hs0 ++ ⟨es.length, 0, r.lk, [], [], []⟩ :: recsOf es [] es.length) id = true
      · rw [if_pos hk] at hg2; cases hg2
      · rw [if_neg hk] at hg2
        rw [ewr id] at hk
        have hnj : id ∉ js := fun h => by rw [hnone id h] at hg2; cases hg2
        refine hs'.mem.blk id b ?_
        rw [hm3 id hnj, ← hg2, hfr id hnj, hM id]
        refine (lastW_eq (wrI es) (fun i k => (mAt es mE i).get k) (fun i k hk => g2 i k hk) L id es.length es.length (Nat.le_refl _) fun j hj hkj => ?_).trans (congrArg (fun z : Mem => z.get id) emE)
        obtain ⟨ej, hej⟩ : ∃ ej, es[j]? = some ej := ⟨_, List.getElem?_eq_getElem hj⟩
        rw [wrI_some hej] at hkj
        exact absurd (wrB_iff.2 ⟨_, recs j ej hej, hkj⟩) hk

theorem edgesB_get : ∀ {l : List Oper} {k i : Nat} {o : Oper}, edgesB k l = true → l[i]? = some o → ∀ e ∈ o.after, Region.binds .any e = true → e.on < k + i
  | [], k, i, o, h, ho, e, he, hb => by simp at ho
  | p :: r, k, i, o, h, ho, e, he, hb => by
    simp only [edgesB] at h
    cases h1 : p.after.toList.all (fun e => !Region.binds .any e || Nat.blt e.on k) with
    | false => simp [h1] at h
    | true =>
      simp only [h1, cond_true] at h
      cases i with
      | zero =>
        simp only [List.getElem?_cons_zero, Option.some.injEq] at ho
        subst ho
        have := List.all_eq_true.1 h1 e (by simpa using he)
        simp only [hb, Bool.not_true, Bool.false_or] at this
        have h2 : e.on + 1 ≤ k := by simpa [Nat.blt] using this
        omega
      | succ i =>
        have := edgesB_get h (by simpa using ho) e he hb
        omega

theorem none_ready {L : Array Bool} (hsz : L.size = ops.size) (hE : edgesB 0 ops.toList = true) (h : Region.ready .any ops L = []) : ∀ j, j < ops.size → L.getD j false = true := by
  intro j
  induction j using Nat.strongRecOn with
  | _ j ih =>
    intro hj
    cases hL : L.getD j false with
    | true => rfl
    | false =>
      exfalso
      have : j ∈ Region.ready .any ops L := by
        rw [mem_ready]
        refine ⟨?_, ops[j], Array.getElem?_eq_getElem hj, ?_⟩
        · have : j < L.size := by omega
          simpa [this] using hL
        · intro e he hb
          have h1 := edgesB_get hE (i := j) (o := ops[j]) (by rw [Array.getElem?_toList]; exact Array.getElem?_eq_getElem hj) e he hb
          exact ih e.on (by omega) (by omega)
      rw [h] at this; cases this

theorem lastW_all {α : Type} (wr : Nat → List Nat) (g : Nat → Nat → α) (hg : ∀ i k, k ∉ wr i → g (i + 1) k = g i k) (L : Nat → Bool) (n : Nat) (hL : ∀ j, j < n → L j = true) (k : Nat) : lastW wr g L n k = g n k :=
  lastW_eq wr g hg L k n n (Nat.le_refl _) fun j hj _ => ⟨fun _ => hj, fun _ => hL j hj⟩

theorem MRel.cong {X : Xs} {pl : Pl} {w : World} {m m' : Mem} (h : MRel X W pl w m) (he : ∀ k, m'.get k = m.get k) : MRel X W pl w m' :=
  ⟨fun id b hb => h.blk id b (by rw [← he id]; exact hb), h.placed, h.apart, h.xin, h.glob⟩

theorem depB_get : ∀ {l : List Oper} {bl j i : Nat} {o : Oper}, depB bl j l = true → l[i]? = some o → loadB o = false → ∃ e ∈ o.after, Region.binds .any e = true ∧ (Nat.testBit bl e.on = true ∨ ∃ i' q, i' < i ∧ e.on = j + i' ∧ l[i']? = some q ∧ loadB q = false)
  | [], bl, j, i, o, h, ho, hl => by simp at ho
  | q :: r, bl, j, i, o, h, ho, hl => by
    simp only [depB] at h
    cases h0 : loadB q with
    | true =>
      simp only [h0, cond_true] at h
      cases i with
      | zero =>
        simp only [List.getElem?_cons_zero, Option.some.injEq] at ho
        subst ho
        rw [h0] at hl; cases hl
      | succ i =>
        obtain ⟨e, he, hb, g⟩ := depB_get h (by simpa using ho) hl
        refine ⟨e, he, hb, ?_⟩
        rcases g with g | ⟨i', q', h1, h2, h3, h4⟩
        · exact .inl g
        · exact .inr ⟨i' + 1, q', by omega, by omega, by simpa using h3, h4⟩
    | false =>
      simp only [h0, cond_false] at h
      cases h1 : q.after.toList.any (fun e => Region.binds .any e && Nat.testBit bl e.on) with
      | false => simp [h1] at h
      | true =>
        simp only [h1, cond_true] at h
        cases i with
        | zero =>
          simp only [List.getElem?_cons_zero, Option.some.injEq] at ho
          subst ho
          obtain ⟨e, he, h2⟩ := List.any_eq_true.1 h1
          rw [Bool.and_eq_true] at h2
          exact ⟨e, by simpa using he, h2.1, .inl h2.2⟩
        | succ i =>
          obtain ⟨e, he, hb, g⟩ := depB_get h (by simpa using ho) hl
          refine ⟨e, he, hb, ?_⟩
          rcases g with g | ⟨i', q', h1, h2, h3, h4⟩
          · rw [Nat.testBit_or, Bool.or_eq_true, Nat.testBit_two_pow] at g
            rcases g with g | g
            · exact .inl g
            · exact .inr ⟨0, q, by omega, by have := of_decide_eq_true g; omega, rfl, h0⟩
          · exact .inr ⟨i' + 1, q', by omega, by omega, by simpa using h3, h4⟩

theorem any_walk (hlen : es.length ≤ ops.size) (ht : Told P ops n rl x es tE mE) (hE : edgesB 0 ops.toList = true) {D : Nat → Prop} (hDes : ∀ (i : Nat) (e : Ent), es[i]? = some e → ∀ k ∈ e.r.lk, ¬ D k) {Q : Exit → Act → World → Prop}
    (hfin : (es.length = ops.size ∧ (∀ k, ¬ D k) ∧ ∀ X pl a w, St G X0 P0 W w0 tE mE n (x + ops.size) X pl a w → Q .normal a w) ∨
      (∃ o l2, ops.toList.drop es.length = o :: l2 ∧ depB (2 ^ es.length) (es.length + 1) l2 = true ∧
        (∀ (L : Nat → Bool) (K : Act → World → Prop) a w, Mid G X0 P0 W w0 ops n x es tE mE D L a w → (∀ e ∈ o.after, Region.binds .any e = true → L e.on = true) → wpOp P ops Q es.length K a w) ∧
        ∀ (j : Nat) (o' : Oper), l2[j]? = some o' → loadB o' = true → ∀ (L : Nat → Bool) (K : Act → World → Prop) a w, Mid G X0 P0 W w0 ops n x es tE mE D L a w → (∀ a w, Mid G X0 P0 W w0 ops n x es tE mE D L a w → K a w) → wpOp P ops Q (es.length + 1 + j) K a w)) :
    ∀ (fuel : Nat) (L : Array Bool) (a : Act) (w : World), L.size = ops.size → openN (fun j => L.getD j false) ops.size ≤ fuel → (∀ j, es.length ≤ j → L.getD j false = true → es.length < j ∧ ∃ o', ops[j]? = some o' ∧ loadB o' = true) →
      Mid G X0 P0 W w0 ops n x es tE mE D (fun j => L.getD j false && decide (j < es.length)) a w → wpAny P .any ops Q fuel L a w := by
  have fin : ∀ (L : Array Bool) (a : Act) (w : World), L.size = ops.size → Region.ready .any ops L = [] → (∀ j, es.length ≤ j → L.getD j false = true → es.length < j ∧ ∃ o', ops[j]? = some o' ∧ loadB o' = true) →
      Mid G X0 P0 W w0 ops n x es tE mE D (fun j => L.getD j false && decide (j < es.length)) a w → Q .normal a w := by
    intro L a w hsz hr hN ⟨hc, hLn, tL, mL, X, pl, hs, hT, hM⟩
    have hall := none_ready hsz hE hr
    rcases hfin with ⟨hfull, hD, hfin⟩ | ⟨o, l2, hd, _⟩
    · obtain ⟨g1, g2⟩ := stays hlen ht
      have eN : es[es.length]? = none := List.getElem?_eq_none (Nat.le_refl _)
      have hone : ∀ j, j < es.length → (L.getD j false && decide (j < es.length)) = true := fun j hj => by rw [hall j (by omega), decide_eq_true hj]; rfl
      refine hfin X pl a w ⟨?_, ?_, hs.size, ?_, hs.ext, hs.mono, hs.news, hs.fresh, hs.calm, hs.pm, hs.cap⟩
      · intro k
        have := hs.env k
        rw [hT k (hD k), lastW_all _ (fun i k => look (tAt es tE i) k) (fun i k hk => g1 i k hk) _ es.length hone k] at this
        simpa [tAt, eN] using this
      · refine hs.mem.cong fun k => ?_
        rw [hM k, lastW_all _ (fun i k => (mAt es mE i).get k) (fun i k hk => g2 i k hk) _ es.length hone k]
        simp [mAt, eN]
      · intro id hid
        refine hs.next id ⟨by omega, fun j hj e => ?_⟩
        rw [Bool.and_eq_true] at hj
        have := of_decide_eq_true hj.2
        omega
    · exfalso
      have hlt : es.length < ops.size := by
        rcases Nat.lt_or_ge es.length ops.size with h | h
        · exact h
        · rw [List.drop_of_length_le (by simpa using h)] at hd; cases hd
      have h1 := (hN es.length (Nat.le_refl _) (hall es.length hlt)).1
      omega
  intro fuel
  induction fuel with
  | zero =>
    intro L a w hsz hf hN hm
    have hr : Region.ready .any ops L = [] := by
      cases h : Region.ready .any ops L with
      | nil => rfl
      | cons j r =>
        exfalso
        have hj : j ∈ Region.ready .any ops L := by rw [h]; simp
        rw [mem_ready] at hj
        obtain ⟨h1, o, ho, _⟩ := hj
        have hlt : j < ops.size := (Array.getElem?_eq_some_iff.1 ho).1
        have := openN_zero (Nat.le_zero.1 hf) j hlt
        have hl : j < L.size := by omega
        simp [hl] at h1 this
        rw [h1] at this; cases this
    exact ⟨hr, fin L a w hsz hr hN hm⟩
  | succ fuel ih =>
    intro L a w hsz hf hN hm
    refine ⟨fun hr => fin L a w hsz hr hN hm, ?_⟩
    intro i hi
    rw [mem_ready] at hi
    obtain ⟨h1, o, ho, hall⟩ := hi
    have hlt : i < ops.size := (Array.getElem?_eq_some_iff.1 ho).1
    have hl : i < L.size := by omega
    have h1' : L.getD i false = false := by simpa [hl] using h1
    have hset : ∀ j, (L.setIfInBounds i true).getD j false = (L.getD j false || j == i) := by
      intro j
      by_cases e : j = i
      · subst e; simp [hl]
      · rw [getD_set_ne false (Ne.symm e)]; simp [e]
    have hfuel : openN (fun j => (L.setIfInBounds i true).getD j false) ops.size ≤ fuel := by
      rw [funext hset]
      have := openN_set (L := fun j => L.getD j false) h1' hlt
      omega
    have hedge : ∀ e ∈ o.after, Region.binds .any e = true → e.on < i := fun e he hb => by
      have := edgesB_get hE (i := i) (o := o) (by rw [Array.getElem?_toList]; exact ho) e he hb
      omega
    have hdeps : i ≤ es.length → ∀ e ∈ o.after, Region.binds .any e = true → (L.getD e.on false && decide (e.on < es.length)) = true := fun hle e he hb => by
      have := hedge e he hb
      rw [hall e he hb, decide_eq_true (by omega)]; rfl
    rcases Nat.lt_or_ge i es.length with hin | hin
    · refine hm.step hlen ht hDes hin ho (by rw [h1']; rfl) (hdeps (Nat.le_of_lt hin)) ?_
      intro a' w' hm'
      refine ih _ a' w' (by simp [hsz]) hfuel ?_ ?_
      · intro j hj hLj
        rw [hset j] at hLj
        have hne : (j == i) = false := by rw [beq_eq_false_iff_ne]; omega
        rw [hne, Bool.or_false] at hLj
        exact hN j hj hLj
      · have e : (fun j => (L.setIfInBounds i true).getD j false && decide (j < es.length)) = fun j => (L.getD j false && decide (j < es.length)) || j == i := by
          funext j
          rw [hset j]
          by_cases e : j = i
          · subst e; simp [hin]
          · have hne : (j == i) = false := by rw [beq_eq_false_iff_ne]; exact e
            rw [hne, Bool.or_false, Bool.or_false]
        rw [e]
        exact hm'
    · rcases hfin with ⟨hfull, hD, hfin⟩ | ⟨o', l2, hd, hdep, hpan, hload⟩
      · omega
      · have ho' : ops[es.length]? = some o' := by
          rw [← Array.getElem?_toList]
          have : (ops.toList.drop es.length)[0]? = some o' := by rw [hd]; rfl
          rw [List.getElem?_drop] at this
          simpa using this
        have hl2 : ∀ j, l2[j]? = ops[es.length + 1 + j]? := by
          intro j
          have h2 : (ops.toList.drop es.length)[j + 1]? = l2[j]? := by rw [hd, List.getElem?_cons_succ]
          rw [← h2, List.getElem?_drop, Array.getElem?_toList]
          congr 1
          omega
        rcases Nat.lt_or_ge es.length i with hlt2 | hge
        · obtain ⟨j, rfl⟩ : ∃ j, i = es.length + 1 + j := ⟨i - es.length - 1, by omega⟩
          have hoi : l2[j]? = some o := by rw [hl2 j]; exact ho
          cases hlo : loadB o with
          | true =>
            refine hload j o hoi hlo _ _ a w hm ?_
            intro a' w' hm'
            refine ih _ a' w' (by simp [hsz]) hfuel ?_ ?_
            · intro j' hj hLj
              rw [hset j', Bool.or_eq_true] at hLj
              rcases hLj with hLj | hLj
              · exact hN j' hj hLj
              · obtain rfl := beq_iff_eq.1 hLj
                exact ⟨by omega, o, ho, hlo⟩
            · have e : (fun j' => (L.setIfInBounds (es.length + 1 + j) true).getD j' false && decide (j' < es.length)) = fun j' => L.getD j' false && decide (j' < es.length) := by
                funext j'
                rw [hset j']
                by_cases e : j' = es.length + 1 + j
                · subst e; simp
                  intro _
                  omega
                · have hne : (j' == es.length + 1 + j) = false := by rw [beq_eq_false_iff_ne]; exact e
                  rw [hne, Bool.or_false]
              rw [e]
              exact hm'
          | false =>
            exfalso
            obtain ⟨e, he, hb, g⟩ := depB_get hdep hoi hlo
            have h2 := hall e he hb
            rcases g with g | ⟨i', q, g1, g2, g3, g4⟩
            · rw [Nat.testBit_two_pow] at g
              have := of_decide_eq_true g
              have := (hN e.on (by omega) h2).1
              omega
            · obtain ⟨k1, o2, k2, k3⟩ := hN e.on (by omega) h2
              rw [hl2 i', ← g2, k2] at g3
              cases g3
              rw [g4] at k3; cases k3
        · obtain rfl : i = es.length := by omega
          obtain rfl : o' = o := by rw [ho] at ho'; exact (Option.some.inj ho').symm
          exact hpan _ _ a w hm (hdeps (Nat.le_refl _))

/-- A world of which a draw is taken. -/
theorem StG.drawn {t : List (Nat × T)} {m : Mem} {N : Nat → Prop} {X : Xs} {pl : Pl} {a : Act} {w : World} {k : Nat} (h : StG G X0 P0 W w0 t m n N X pl a w) : StG G X0 P0 W w0 t m n N X pl a { w with drawn := k } := by
  have hx : XMono X X w { w with drawn := k } := fun b off hb => ⟨hb, rfl⟩
  have hp : PMono pl pl w { w with drawn := k } := fun id l hl => ⟨⟨l, hl, l.le_refl⟩, fun _ _ _ _ _ hr => hr⟩
  refine ⟨fun i => (h.env i).mono hx hp, ⟨?_, h.mem.placed, h.mem.apart, h.mem.xin, h.mem.glob⟩, h.size, h.next, ⟨h.ext.size, h.ext.os, h.ext.output, h.ext.tape, h.ext.keep⟩, fun b off hb => h.mono b off hb, h.news, h.fresh, h.calm, h.pm.trans hp, fun p hpc => (h.cap p hpc).mono hx hp⟩
  intro id b hb
  obtain ⟨l, hl, hok⟩ := h.mem.blk id b hb
  refine ⟨l, hl, ?_⟩
  cases b with
  | own sz rows =>
    rcases hok with h1 | ⟨b, h1, cs, e, fr, h2, h3, h4, h5⟩
    · exact .inl h1
    · refine .inr ⟨b, h1, cs, e, fr, h2, h3, h4, fun i row hr => ⟨(h5 i row hr).1, fun j t ht => ?_⟩⟩
      obtain ⟨v, hv, hvr⟩ := (h5 i row hr).2 j t ht
      exact ⟨v, hv, hvr.mono hx hp⟩
  | tok sz n => exact hok
  | iter s pos => exact hok
  | map kv => exact hok

theorem evenB_departs {l : List Oper} (h : evenB l = true) : ∀ o ∈ l, ∀ e ∈ o.after, Region.binds .any e = true := by
  induction l with
  | nil => intro o ho; cases ho
  | cons p r ih =>
    intro o ho e he
    simp only [evenB] at h
    cases h1 : p.after.toList.all (Region.binds .any) with
    | false => simp [h1] at h
    | true =>
      simp only [h1, cond_true] at h
      rcases List.mem_cons.1 ho with rfl | ho
      · exact List.all_eq_true.1 h1 e (by simpa using he)
      · exact ih h o ho e he
theorem mixB_schedule (h : mixB P ops.toList = true) (t : Nat) : Region.schedule (P.follows .mixedOrders) ops t = Region.linearise .any ops t := by
  unfold mixB at h
  unfold Region.schedule
  cases hev : evenB ops.toList with
  | true =>
    have : Region.departs ops = false := by
      unfold Region.departs
      cases hd : ops.any (·.after.any fun e => !Region.binds .any e) with
      | false => rfl
      | true =>
        obtain ⟨o, ho, h2⟩ := Array.any_eq_true'.1 hd
        obtain ⟨e, he, h3⟩ := Array.any_eq_true'.1 h2
        rw [evenB_departs hev o (by simpa using ho) e he] at h3
        cases h3
    simp [this]
  | false =>
    simp only [hev, cond_false] at h
    simp [h]

/-- A region that draws. -/
theorem drawn_ok {id : Nat} {t : List (Nat × T)} {m : Mem} {X : Xs} {pl : Pl} {a : Act} {w : World} {KP : Value → List (Nat × T) → Mem → Prop} {K : List (Nat × T) → Mem → Prop} {Q : Exit → Act → World → Prop}
    (hE : edgesB 0 ops.toList = true) (hmix : mixB P ops.toList = true) (h : opsD P ops n rl x KP ops.toList 0 t m [] K) (hs : St G X0 P0 W w0 t m n x X pl a w)
    (hfin : ∀ t m X pl a w, K t m → St G X0 P0 W w0 t m n (x + ops.size) X pl a w → Q .normal a w)
    (hpan : ∀ v t m X pl a w, KP v t m → St G X0 P0 W w0 t m n (x + ops.size) X pl a w → Q (.panic [{ v := v, recovered := false }]) a w) : (Code.region id ops true).wp P Q a w := by
  have h0 : ∀ j, (Array.replicate ops.size false).getD j false = false := by
    intro j
    rw [Array.getD_eq_getD_getElem?, Array.getElem?_replicate]
    split <;> rfl
  have hl0 : ∀ {α : Type} (wr : Nat → List Nat) (g : Nat → Nat → α) (k : Nat) (n : Nat), lastW wr g (fun j => (Array.replicate ops.size false).getD j false) n k = g 0 k := by
    intro α wr g k n
    induction n with
    | zero => rfl
    | succ n ih =>
      rw [← ih]
      simp only [lastW]
      rw [if_neg (fun e => by rw [h0] at e; cases e.1)]
  have go : ∀ (es : List Ent) (tE : List (Nat × T)) (mE : Mem) (l1 : List Oper), TraceOk P ops n rl x l1 0 t m [] es tE mE → (∀ i o, i < l1.length → ops[i]? = some o → l1[i]? = some o) → l1.length ≤ ops.size → ∀ D : Nat → Prop, (∀ (i : Nat) (e : Ent), es[i]? = some e → ∀ k ∈ e.r.lk, ¬ D k) → (∀ k, k ∈ (es.map (·.r)).flatMap (·.lk) → ¬ D k) →
      (Told P ops n rl x es tE mE → (es.length = ops.size ∧ (∀ k, ¬ D k) ∧ ∀ X pl a w, St G X0 P0 W w0 tE mE n (x + ops.size) X pl a w → Q .normal a w) ∨
      (∃ o l2, ops.toList.drop es.length = o :: l2 ∧ depB (2 ^ es.length) (es.length + 1) l2 = true ∧
        (∀ (L : Nat → Bool) (K : Act → World → Prop) a w, Mid G X0 P0 W w0 ops n x es tE mE D L a w → (∀ e ∈ o.after, Region.binds .any e = true → L e.on = true) → wpOp P ops Q es.length K a w) ∧
        ∀ (j : Nat) (o' : Oper), l2[j]? = some o' → loadB o' = true → ∀ (L : Nat → Bool) (K : Act → World → Prop) a w, Mid G X0 P0 W w0 ops n x es tE mE D L a w → (∀ a w, Mid G X0 P0 W w0 ops n x es tE mE D L a w → K a w) → wpOp P ops Q (es.length + 1 + j) K a w)) →
      (Code.region id ops true).wp P Q a w := by
    intro es tE mE l1 htr hl1 hle D hDes _ hfin
    obtain ⟨hlen, hget⟩ := trace_get htr
    obtain ⟨ft, fm⟩ := trace_first htr
    have ht : Told P ops n rl x es tE mE := fun i o hi ho => hget i o (hl1 i o (by omega) ho)
    refine wp_region_draw fun τ => ?_
    rw [mixB_schedule hmix τ]
    refine wpAny_sound ops.size τ _ a _ ?_
    refine any_walk (by omega) ht hE hDes (hfin ht) ops.size _ a _ (by simp) (openN_none fun _ _ => rfl) (fun j _ hj => absurd ((h0 j).symm.trans hj) Bool.false_ne_true) ?_
    have hz : ∀ j, ((Array.replicate ops.size false).getD j false && decide (j < es.length)) = false := fun j => by rw [h0 j]; rfl
    have hl1' : ∀ {α : Type} (wr : Nat → List Nat) (g : Nat → Nat → α) (k : Nat) (n : Nat), lastW wr g (fun j => (Array.replicate ops.size false).getD j false && decide (j < es.length)) n k = g 0 k := by
      intro α wr g k n
      induction n with
      | zero => rfl
      | succ n ih =>
        rw [← ih]
        simp only [lastW]
        rw [if_neg (fun e => by rw [hz] at e; cases e.1)]
    refine ⟨fun i o ho hL => absurd ((hz i).symm.trans hL) Bool.false_ne_true, fun j _ => hz j, t, m, X, pl, ?_, ?_, ?_⟩
    · exact StG.drawn ⟨hs.env, hs.mem, hs.size, fun id hid => hs.next id hid.1, hs.ext, hs.mono, hs.news, hs.fresh, hs.calm, hs.pm, hs.cap⟩
    · intro k _; rw [hl1', ft]
    · intro k; rw [hl1', fm]
  rcases opsD_trace _ _ _ _ _ h with ⟨es, tE, mE, htr, hKE⟩ | ⟨l1, o, l2, es, tE, mE, hl, htr, hx⟩
  · have hlen := (trace_get htr).1
    exact go es tE mE ops.toList htr (fun i o _ ho => by rw [Array.getElem?_toList]; exact ho) (by simp) (fun _ => False) (fun _ _ _ _ _ h => h) (fun _ _ h => h) fun _ => .inl ⟨by simpa using hlen, fun _ h => h, fun X pl a w hst => hfin tE mE X pl a w hKE hst⟩
  · have hlen := (trace_get htr).1
    have hle : l1.length < ops.size := by
      have := congrArg List.length hl
      rw [List.length_append, List.length_cons] at this
      have h2 : ops.toList.length = ops.size := by simp
      omega
    have e1 : (es.map (·.r)).reverse ++ [] = recsOf es [] es.length := by simp [recsOf]
    rw [Nat.zero_add, e1, ← hlen] at hx
    obtain ⟨js, r, v, m', hdep, hri, hmask, hlk, hds, hfp, hwr, hok, hgv, hKP, hfr, hnone, hloc⟩ := hx
    obtain ⟨hs0, hKP, q1, q2, q3⟩ := harmK_elim hKP
    have hDes : ∀ (i : Nat) (e : Ent), es[i]? = some e → ∀ k ∈ e.r.lk, ¬ ∃ r ∈ hs0, k ∈ r.ds := by
      rintro i e he k hk ⟨q, hq, hkq⟩
      exact ((q1 q hq).2 e.r (List.mem_cons_of_mem _ (recsOf_mem.2 ⟨i, e, (List.getElem?_eq_some_iff.1 he).1, he, rfl⟩))).ld k hkq hk
    refine go es tE mE l1 htr (fun i o' hi ho => ?_) (Nat.le_of_lt hle) (fun k => ∃ r ∈ hs0, k ∈ r.ds) hDes ?_ fun ht => .inr ⟨o, l2, ?_, hdep, ?_, ?_⟩
    · rw [← Array.getElem?_toList, hl, List.getElem?_append_left hi] at ho; exact ho
    · intro k hk
      obtain ⟨q, hq, hkq⟩ := List.mem_flatMap.1 hk
      obtain ⟨e, he, rfl⟩ := List.mem_map.1 hq
      obtain ⟨i, hi⟩ := List.getElem?_of_mem he
      exact hDes i e hi k hkq
    · rw [hl, hlen, List.drop_left]
    · intro L K a w hmid hb
      have hoo : ops[es.length]? = some o := by
        rw [← Array.getElem?_toList, hl, hlen, List.getElem?_append_right (Nat.le_refl _)]; simp
      exact Mid.pan (by omega) ht hmid hmask hlk hfp hok hgv (fun q hq k hk hk2 => ((q1 q hq).2 _ List.mem_cons_self).ld k hk hk2) (fun q hq => (q1 q hq).1) hKP hfr hnone hloc hoo hb hpan
    · intro j o' hj hlo L K a w hmid hK
      obtain ⟨r', hr', k1, k2, k3, k4, v0, m0, k5⟩ := q3 j o' hj hlo
      have hoo : ops[es.length + 1 + j]? = some o' := by
        rw [← Array.getElem?_toList, hl, hlen, List.getElem?_append_right (by omega), show l1.length + 1 + j - l1.length = j + 1 by omega, List.getElem?_cons_succ]; exact hj
      exact Mid.load (by omega) ht hmid (by omega) hoo hlo k1 k3 (fun k hk => ⟨r', hr', by rw [k2]; exact hk⟩) k4 (fun q hq => (q1 r' hr').2 q (List.mem_cons_of_mem _ hq)) (fun k hk ⟨q, hq, hkq⟩ => q2 q hq r' hr' k hkq hk) k5 hK
end
end Go.AW

/- Ids below a number. -/
set_option linter.unusedVariables false
set_option linter.unusedSimpArgs false
namespace Go.AW
open Go
/-- Ids below a number, in a flat value. -/
def lt0 (x : Nat) : T → Prop
  | .dead | .lit _ | .sl none _ _ | .ifc _ _ | .vp _ _ => True
  | .sl (some id) _ _ | .ptr id _ _ | .sref id _ _ | .itr id | .mref id => Nat.blt id x = true
  | _ => False
def ltT (x : Nat) : T → Prop
  | .agg cs => ∀ c ∈ cs, lt0 x c
  | .tup cs => ∀ c ∈ cs, lt0 x c
  | .clo _ cs => ∀ c ∈ cs, lt0 x c
  | t => lt0 x t

section
variable {X : Xs} {pl pl' : Pl} {w : World} {x : Nat}
theorem lt_of_blt {a b : Nat} (h : Nat.blt a b = true) : a < b := by
  have : a + 1 ≤ b := by simpa [Nat.blt] using h
  exact this
theorem lt0_vrel (h : ∀ id, id < x → ∀ l, pl id = some l → pl' id = some l) {t : T} (ht : lt0 x t) {v : Value} (hv : VRel X pl w t v) : VRel X pl' w t v := by
  cases hv with
  | dead v => exact .dead v
  | lit v => exact .lit v
  | sl tok sz rows v hb htk =>
    refine .sl tok sz rows v hb fun id e => ?_
    subst e
    obtain ⟨l, hl, hm⟩ := htk id rfl
    exact ⟨l, h id (lt_of_blt ht) l hl, hm⟩
  | agg => exact ht.elim
  | tup => exact ht.elim
  | clo => exact ht.elim
  | ifc t x v h => exact .ifc t x v h
  | ptr id row off b sz hp => exact .ptr id row off b sz (hp.imp (h id (lt_of_blt ht) _) (h id (lt_of_blt ht) _))
  | srefn id hp => exact .srefn id (hp.imp (h id (lt_of_blt ht) _) (h id (lt_of_blt ht) _))
  | sref id lo len b sz cap hp h1 h2 =>
    refine .sref id lo len b sz cap (hp.imp (h id (lt_of_blt ht) _) (h id (lt_of_blt ht) _)) h1 fun e => ?_
    rcases hp with hp | hp
    · exact h2 hp
    · rw [h id (lt_of_blt ht) _ hp] at e; cases e
  | srefz id lo b sz a hp => exact .srefz id lo b sz a (hp.imp (h id (lt_of_blt ht) _) (h id (lt_of_blt ht) _))
  | vp row off b o cs h => exact .vp row off b o cs h
  | itr id b hp => exact .itr id b (h id (lt_of_blt ht) _ hp)
  | mref id b hp => exact .mref id b (h id (lt_of_blt ht) _ hp)

theorem ltT_vrel (h : ∀ id, id < x → ∀ l, pl id = some l → pl' id = some l) {t : T} (ht : ltT x t) {v : Value} (hv : VRel X pl w t v) : VRel X pl' w t v := by
  cases t with
  | agg ts =>
    obtain ⟨_, rfl, hl, hh⟩ := hv.agg_inv
    exact .agg ts _ hl fun i t v h1 h2 => lt0_vrel h (ht t (List.mem_of_getElem? h1)) (hh i t v h1 h2)
  | tup ts =>
    cases hv with
    | tup ts vs hl hh => exact .tup ts vs hl fun i t v h1 h2 => lt0_vrel h (ht t (List.mem_of_getElem? h1)) (hh i t v h1 h2)
  | clo f ts =>
    cases hv with
    | clo f ts vs hl hh => exact .clo f ts vs hl fun i t v h1 h2 => lt0_vrel h (ht t (List.mem_of_getElem? h1)) (hh i t v h1 h2)
  | _ => refine lt0_vrel (x := x) h ?_ hv; exact ht

end
end Go.AW
