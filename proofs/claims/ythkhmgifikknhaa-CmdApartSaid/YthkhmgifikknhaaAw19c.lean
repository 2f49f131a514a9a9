import Derived.Test.YthkhmgifikknhaaAw19
import Derived.Orders
/- Regions that draw, on: the walk over any order. -/
set_option linter.unusedVariables false
set_option linter.unusedSimpArgs false
namespace Go.AW
open Go

/-- How many are not yet done. -/
def openN (L : Nat → Bool) : Nat → Nat
  | 0 => 0
  | i + 1 => openN L i + (if L i = true then 0 else 1)

theorem openN_zero {L : Nat → Bool} : ∀ {n : Nat}, openN L n = 0 → ∀ j, j < n → L j = true
  | 0, _, j, hj => by omega
  | n + 1, h, j, hj => by
    simp only [openN] at h
    by_cases hL : L n = true
    · by_cases e : j = n
      · subst e; exact hL
      · exact openN_zero (L := L) (n := n) (by omega) j (by omega)
    · simp [hL] at h
theorem openN_none {L : Nat → Bool} : ∀ {n : Nat}, (∀ j, n ≤ j → L j = L j) → openN L n ≤ n
  | 0, _ => by simp [openN]
  | n + 1, _ => by
    have := openN_none (L := L) (n := n) (fun _ _ => rfl)
    simp only [openN]; split <;> omega
theorem openN_same {L : Nat → Bool} {i : Nat} : ∀ {n : Nat}, n ≤ i → openN (fun j => L j || j == i) n = openN L n
  | 0, _ => rfl
  | n + 1, h => by
    have hne : (n == i) = false := by simp; omega
    simp only [openN, hne, Bool.or_false]
    rw [openN_same (by omega)]
theorem openN_set {L : Nat → Bool} {i : Nat} (hi : L i = false) : ∀ {n : Nat}, i < n → openN (fun j => L j || j == i) n + 1 = openN L n
  | 0, h => by omega
  | n + 1, h => by
    simp only [openN]
    by_cases e : n = i
    · subst e
      rw [openN_same (Nat.le_refl _)]
      simp [hi]
    · have hne : (n == i) = false := by simp [e]
      have := openN_set hi (n := n) (by omega)
      simp only [hne, Bool.or_false]
      omega

section
variable {P : Program} {ops : Array Oper} {n : Nat} {rl : List Nat} {x : Nat} {es : List Ent} {tE : List (Nat × T)} {mE : Mem}
variable {G : Gd} {X0 : Xs} {P0 : Pl} {W : Nat → Prop} {w0 : World}

theorem ev_lk {all : Array Oper} {o : Oper} {ρ ρ2 : List (Nat × T)} (h : ∀ k ∈ looksL all o, look ρ2 k = look ρ k) : ∀ y ∈ o.op.operands.toList, ev ρ2 y = ev ρ y := by
  intro y hy
  cases y with
  | tmp t =>
    have : t ∈ looksL all o := by
      unfold looksL
      exact List.mem_append_left _ (List.mem_filterMap.2 ⟨.tmp t, hy, rfl⟩)
    simp only [ev]
    exact h t this
  | _ => rfl

theorem gval_lk {all : Array Oper} {o : Oper} {ρ ρ2 : List (Nat × T)} (h : ∀ k ∈ looksL all o, look ρ2 k = look ρ k) : gval ρ2 all o.guard = gval ρ all o.guard := by
  unfold gval
  cases hg : o.guard with
  | none => rfl
  | some g =>
    obtain ⟨j, w⟩ := g
    simp only
    cases ho : all[j]? with
    | none => rfl
    | some q =>
      simp only
      cases hd : q.dst with
      | none => rfl
      | some d =>
        simp only
        have : d ∈ looksL all o := by
          unfold looksL
          refine List.mem_append_right _ ?_
          simp only [hg, ho, hd, Option.toList_some, List.mem_singleton]
        rw [h d this]

/-- In the midst of a region: what is done, and what it has left. -/
def Mid (G : Gd) (X0 : Xs) (P0 : Pl) (W : Nat → Prop) (w0 : World) (ops : Array Oper) (n x : Nat) (es : List Ent) (tE : List (Nat × T)) (mE : Mem) (L : Nat → Bool) (a : Act) (w : World) : Prop :=
  Closed ops L ∧ (∀ j, es.length ≤ j → L j = false) ∧ ∃ tL mL X pl, StG G X0 P0 W w0 tL mL n (fun id => x ≤ id ∧ ∀ j, L j = true → id ≠ x + j) X pl a w ∧
    (∀ k, look tL k = lastW (dsI es) (fun i k => look (tAt es tE i) k) L es.length k) ∧ (∀ k, mL.get k = lastW (wrI es) (fun i k => (mAt es mE i).get k) L es.length k)

/-- What an operation looks at is as it was in the text's order. -/
theorem agree (hlen : es.length ≤ ops.size) (ht : Told P ops n rl x es tE mE) {L : Nat → Bool} (hc : Closed ops L) (hLn : ∀ j, es.length ≤ j → L j = false) {tL : List (Nat × T)} {mL : Mem}
    (hT : ∀ k, look tL k = lastW (dsI es) (fun i k => look (tAt es tE i) k) L es.length k) (hM : ∀ k, mL.get k = lastW (wrI es) (fun i k => (mAt es mE i).get k) L es.length k)
    {i : Nat} {o : Oper} {r : Rec} (hile : i ≤ es.length) (hi : L i = false) (hb : ∀ e ∈ o.after, Region.binds .any e = true → L e.on = true)
    (hmask : r.mask = maskE (recsOf es [] i) o.after.toList 0) (hok : okRec (recsOf es [] i) r = true) (hafter : ∀ j ej, i < j → es[j]? = some ej → L j = true → Apart r ej.r) :
    (∀ j ej, j < i → es[j]? = some ej → L j = true ∨ Apart ej.r r) ∧ (∀ k ∈ r.lk, look tL k = look (tAt es tE i) k) ∧ (∀ k ∈ r.fp, mL.get k = (mAt es mE i).get k) := by
  obtain ⟨g1, g2⟩ := stays hlen ht
  have hmk : ∀ k, Nat.testBit r.mask k = true → L k = true := by
    intro k hk
    rw [hmask] at hk
    rcases maskE_bit hk with h | ⟨ed, hed, hbd, h⟩
    · simp at h
    · have hLe := hb ed (by simpa using hed) hbd
      rcases h with rfl | h
      · exact hLe
      · obtain ⟨q, hq, h1, h2⟩ := maskOf_bit h
        obtain ⟨j, ej, hj, hej, rfl⟩ := recsOf_mem.1 hq
        have hjl : j < es.length := (List.getElem?_eq_some_iff.1 hej).1
        obtain ⟨ej', hej', qj⟩ := ht j _ hjl (Array.getElem?_eq_getElem (by omega : j < ops.size))
        obtain rfl : ej' = ej := by rw [hej] at hej'; exact (Option.some.inj hej').symm
        have hij : j = ed.on := by rw [← h1, qj.num]; omega
        subst hij
        exact mask_in ht hc _ _ _ (Array.getElem?_eq_getElem (by omega)) hej (hc _ _ (Array.getElem?_eq_getElem (by omega)) hLe) k h2
  have before : ∀ j ej, j < i → es[j]? = some ej → L j = true ∨ Apart ej.r r := by
    intro j ej hj hej
    rcases okRec_mem hok (recsOf_mem.2 ⟨j, ej, hj, hej, rfl⟩) with h | h
    · obtain ⟨ej', hej', qj⟩ := ht j _ (by omega) (Array.getElem?_eq_getElem (by omega : j < ops.size))
      obtain rfl : ej' = ej := by rw [hej] at hej'; exact (Option.some.inj hej').symm
      have : ej'.r.i = j := by rw [qj.num]; omega
      rw [this] at h
      exact .inl (hmk j h)
    · exact .inr h
  have ex : ∀ j, j < es.length → ∃ ej, es[j]? = some ej := fun j hj => ⟨_, List.getElem?_eq_getElem hj⟩
  refine ⟨before, ?_, ?_⟩
  · intro k hk
    rw [hT k]
    refine lastW_eq (dsI es) (fun i k => look (tAt es tE i) k) (fun i k hk => g1 i k hk) L k es.length i hile ?_
    intro j hj hkj
    obtain ⟨ej, hej⟩ := ex j hj
    rw [dsI_some hej] at hkj
    rcases Nat.lt_trichotomy j i with hji | rfl | hji
    · rcases before j ej hji hej with h | h
      · exact ⟨fun _ => hji, fun _ => h⟩
      · exact (h.dl k hkj hk).elim
    · exact ⟨fun h => (by rw [hi] at h; cases h), fun h => by omega⟩
    · refine ⟨fun h => ((hafter j ej hji hej h).ld k hkj hk).elim, fun h => by omega⟩
  · intro k hk
    rw [hM k]
    refine lastW_eq (wrI es) (fun i k => (mAt es mE i).get k) (fun i k hk => g2 i k hk) L k es.length i hile ?_
    intro j hj hkj
    obtain ⟨ej, hej⟩ := ex j hj
    rw [wrI_some hej] at hkj
    rcases Nat.lt_trichotomy j i with hji | rfl | hji
    · rcases before j ej hji hej with h | h
      · exact ⟨fun _ => hji, fun _ => h⟩
      · exact (h.wf k hkj hk).elim
    · exact ⟨fun h => (by rw [hi] at h; cases h), fun h => by omega⟩
    · refine ⟨fun h => ((hafter j ej hji hej h).fw k hkj hk).elim, fun h => by omega⟩

theorem Mid.step (hlen : es.length ≤ ops.size) (ht : Told P ops n rl x es tE mE) {L : Nat → Bool} {a : Act} {w : World} (h : Mid G X0 P0 W w0 ops n x es tE mE L a w) {i : Nat} {o : Oper} (hlt : i < es.length) (ho : ops[i]? = some o) (hi : L i = false)
    (hb : ∀ e ∈ o.after, Region.binds .any e = true → L e.on = true) {Q : Exit → Act → World → Prop} {K : Act → World → Prop} (hK : ∀ a w, Mid G X0 P0 W w0 ops n x es tE mE (fun j => L j || j == i) a w → K a w) : wpOp P ops Q i K a w := by
  obtain ⟨hc, hLn, tL, mL, X, pl, hs, hT, hM⟩ := h
  obtain ⟨e, he, q⟩ := ht i o hlt ho
  have hni : e.r.i = i := by rw [q.num]; omega
  have after : ∀ j ej, i < j → es[j]? = some ej → L j = true → Apart e.r ej.r := by
    intro j ej hj hej hL
    have hjl : j < es.length := (List.getElem?_eq_some_iff.1 hej).1
    have hjn : j < ops.size := by omega
    obtain ⟨ej', hej', qj⟩ := ht j _ hjl (Array.getElem?_eq_getElem hjn)
    obtain rfl : ej' = ej := by rw [hej] at hej'; exact (Option.some.inj hej').symm
    rcases okRec_mem qj.ok (recsOf_mem.2 ⟨i, e, hj, he, rfl⟩) with h | h
    · have := mask_in ht hc j _ _ (Array.getElem?_eq_getElem hjn) hej (hc j _ (Array.getElem?_eq_getElem hjn) hL) e.r.i h
      rw [hni, hi] at this; cases this
    · exact h
  have ex : ∀ j, j < es.length → ∃ ej, es[j]? = some ej := fun j hj => ⟨_, List.getElem?_eq_getElem hj⟩
  obtain ⟨_, agreeT, agreeM⟩ := agree hlen ht hc hLn hT hM (Nat.le_of_lt hlt) hi hb q.mask q.ok after
  rw [tAt_some he] at agreeT
  rw [mAt_some he] at agreeM
  have hTn : ∀ tv, tv = e.v → ∀ k, look (putO tL o.dst tv) k = lastW (dsI es) (fun i k => look (tAt es tE i) k) (fun j => L j || j == i) es.length k := by
    rintro tv rfl k
    rw [lastW_add (dsI es) (fun i k => look (tAt es tE i) k) L i k ?_ es.length, look_putO, ← hT k]
    · simp only [hlt, true_and, dsI_some he, q.ds]
      by_cases hk : k ∈ o.dst.toList
      · simp only [hk, if_true]
        rw [q.tnext, look_putO, if_pos hk]
      · simp only [hk, if_false]
    · intro hk j hL hkj
      rcases Nat.lt_trichotomy j i with hji | rfl | hji
      · exact hji
      · rw [hi] at hL; cases hL
      · by_cases hj : j < es.length
        · obtain ⟨ej, hej⟩ := ex j hj
          rw [dsI_some hej] at hkj
          rw [dsI_some he] at hk
          exact ((after j ej hji hej hL).dd k hkj hk).elim
        · have : es[j]? = none := List.getElem?_eq_none (by omega)
          simp [dsI, this] at hkj
  have hMn : ∀ m' : Mem, (∀ k ∈ e.r.wr, m'.get k = e.m'.get k) → (∀ k, k ∉ e.r.wr → m'.get k = mL.get k) →
      ∀ k, m'.get k = lastW (wrI es) (fun i k => (mAt es mE i).get k) (fun j => L j || j == i) es.length k := by
    intro m' h1 h2 k
    rw [lastW_add (wrI es) (fun i k => (mAt es mE i).get k) L i k ?_ es.length, ← hM k]
    · simp only [hlt, true_and, wrI_some he]
      by_cases hk : k ∈ e.r.wr
      · simp only [hk, if_true]
        rw [h1 k hk, q.mnext]
      · simp only [hk, if_false]
        exact h2 k hk
    · intro hk j hL hkj
      rcases Nat.lt_trichotomy j i with hji | rfl | hji
      · exact hji
      · rw [hi] at hL; cases hL
      · by_cases hj : j < es.length
        · obtain ⟨ej, hej⟩ := ex j hj
          rw [wrI_some hej] at hkj
          rw [wrI_some he] at hk
          exact ((after j ej hji hej hL).ww k hkj hk).elim
        · have : es[j]? = none := List.getElem?_eq_none (by omega)
          simp [wrI, this] at hkj
  have hcn : Closed ops (fun j => L j || j == i) := by
    intro j oj hoj hL ed hed hbd
    simp only [Bool.or_eq_true, beq_iff_eq] at hL ⊢
    rcases hL with hL | rfl
    · exact .inl (hc j oj hoj hL ed hed hbd)
    · obtain rfl : oj = o := by rw [ho] at hoj; exact (Option.some.inj hoj).symm
      exact .inl (hb ed hed hbd)
  have hLn2 : ∀ j, es.length ≤ j → (L j || j == i) = false := by
    intro j hj
    rw [hLn j hj, Bool.false_or, beq_eq_false_iff_ne]
    omega
  have hlk : ∀ k ∈ looksL ops o, look tL k = look e.t k := by rw [← q.lk]; exact agreeT
  have hg : Region.wanted o (yielded ops a.tmps) = e.go := gval_wanted hs.env (by rw [gval_lk hlk]; exact q.gv)
  unfold wpOp
  simp only [ho, hg]
  cases hgo : e.go with
  | true =>
    simp only [if_true]
    obtain ⟨y1, y2, y3⟩ := q.yes hgo
    rw [Nat.zero_add] at y1 y2 y3
    have hop := y3.2 tL mL (ev_lk hlk) (by rw [← y1]; exact agreeM) (fun v m2' => v = e.v ∧ (∀ k ∈ e.r.wr, m2'.get k = e.m'.get k) ∧ (∀ k, k ∉ e.r.wr → m2'.get k = mL.get k))
      (fun m2' h1 h2 => ⟨rfl, by rw [y2]; exact h1, by rw [y2]; exact h2⟩)
    refine .inl (opJ_ok hop hs.env hs.mem (hs.next _ ⟨by omega, fun j hj e => ?_⟩) (fun b hb => hs.fresh b (Nat.le_trans hs.ext.size hb)) ?_)
    · have : j = i := by omega
      subst this
      rw [hi] at hj; cases hj
    · rintro v tv m' w' ⟨k1, k2, k3⟩ hst
      refine hK _ _ ?_
      obtain ⟨X', pl', hs'⟩ := hs.put hst (N' := fun id => x ≤ id ∧ ∀ j, (L j || j == i) = true → id ≠ x + j) (fun id hid => ⟨⟨hid.1, fun j hj => hid.2 j (by simp [hj])⟩, by
        have := hid.2 i (by simp)
        cases (isNew o.op || mcall rl o)
        · simp
        · simp only [if_true, ne_eq, Option.some.injEq]; exact fun e => this e.symm⟩) q.dst
      exact ⟨hcn, hLn2, _, _, X', pl', hs', hTn tv k1, hMn m' k2 k3⟩
  | false =>
    simp only [Bool.false_eq_true, if_false]
    obtain ⟨y1, y2, y3, y4⟩ := q.no hgo
    refine hK _ _ ?_
    obtain ⟨X', pl', hs'⟩ := hs.put (StepOk.same hs.mem none (VRel.lit undef)) (N' := fun id => x ≤ id ∧ ∀ j, (L j || j == i) = true → id ≠ x + j) (fun id hid => ⟨⟨hid.1, fun j hj => hid.2 j (by simp [hj])⟩, by simp⟩) q.dst
    exact ⟨hcn, hLn2, _, _, X', pl', hs', hTn _ y3.symm, hMn mL (by rw [y2]; simp) (fun _ _ => rfl)⟩

theorem dropT_elim {rs : List Rec} : ∀ {t : List (Nat × T)} {K : List (Nat × T) → Prop}, dropT rs t K → ∃ t', K t' ∧ ∀ k, look t' k = if setB rs k = true then .dead else look t k
  | [], K, h => ⟨[], h, fun k => by simp [look]⟩
  | (j, v) :: r, K, h => by
    simp only [dropT] at h
    cases e : setB rs j with
    | true =>
      rw [e] at h
      obtain ⟨t', h1, h2⟩ := dropT_elim (t := r) (K := K) h
      refine ⟨t', h1, fun k => ?_⟩
      rw [h2 k]
      by_cases hk : setB rs k = true
      · rw [if_pos hk, if_pos hk]
      · rw [if_neg hk, if_neg hk]
        have hne : j ≠ k := fun e2 => by subst e2; exact hk e
        simp [look, beq_ne hne]
    | false =>
      rw [e] at h
      obtain ⟨t', h1, h2⟩ := dropT_elim (t := r) (K := fun r' => K ((j, v) :: r')) h
      refine ⟨_, h1, fun k => ?_⟩
      simp only [look]
      cases ej : Nat.beq j k with
      | true =>
        obtain rfl := Nat.eq_of_beq_eq_true ej
        rw [if_neg (by rw [e]; exact Bool.false_ne_true)]; rfl
      | false => exact h2 k
theorem dropM_elim {rs : List Rec} : ∀ {m : Mem} {K : Mem → Prop}, dropM rs m K → ∃ m', K m' ∧ ∀ k, m'.get k = if wrB rs k = true then none else m.get k
  | [], K, h => ⟨[], h, fun k => by simp [Mem.get]⟩
  | (j, v) :: r, K, h => by
    simp only [dropM] at h
    cases e : wrB rs j with
    | true =>
      rw [e] at h
      obtain ⟨t', h1, h2⟩ := dropM_elim (m := r) (K := K) h
      refine ⟨t', h1, fun k => ?_⟩
      rw [h2 k]
      by_cases hk : wrB rs k = true
      · rw [if_pos hk, if_pos hk]
      · rw [if_neg hk, if_neg hk]
        have hne : j ≠ k := fun e2 => by subst e2; exact hk e
        simp [Mem.get, beq_ne hne]
    | false =>
      rw [e] at h
      obtain ⟨t', h1, h2⟩ := dropM_elim (m := r) (K := fun r' => K ((j, v) :: r')) h
      refine ⟨_, h1, fun k => ?_⟩
      simp only [Mem.get]
      cases ej : Nat.beq j k with
      | true =>
        obtain rfl := Nat.eq_of_beq_eq_true ej
        rw [if_neg (by rw [e]; exact Bool.false_ne_true)]; rfl
      | false => exact h2 k
theorem setB_iff {rs : List Rec} {k : Nat} : setB rs k = true ↔ ∃ r ∈ rs, k ∈ r.ds := by
  induction rs with
  | nil => simp [setB]
  | cons r rs ih =>
    simp only [setB, List.mem_cons, exists_eq_or_imp]
    cases e : memB r.ds k with
    | true => simp [memB_iff.1 e]
    | false =>
      have : k ∉ r.ds := fun h => by rw [memB_iff.2 h] at e; cases e
      simp [this, ih]
theorem wrB_iff {rs : List Rec} {k : Nat} : wrB rs k = true ↔ ∃ r ∈ rs, k ∈ r.wr := by
  induction rs with
  | nil => simp [wrB]
  | cons r rs ih =>
    simp only [wrB, List.mem_cons, exists_eq_or_imp]
    cases e : memB r.wr k with
    | true => simp [memB_iff.1 e]
    | false =>
      have : k ∉ r.wr := fun h => by rw [memB_iff.2 h] at e; cases e
      simp [this, ih]

/-- The operation that panics, whatever was done ahead of it. -/
theorem Mid.pan (hlen : es.length ≤ ops.size) (ht : Told P ops n rl x es tE mE) {L : Nat → Bool} {a : Act} {w : World} (h : Mid G X0 P0 W w0 ops n x es tE mE L a w) {KP : Value → List (Nat × T) → Mem → Prop} {l2 : List Oper} {o : Oper}
    (hx : XAt P ops KP l2 es.length o tE mE (recsOf es [] es.length)) (ho : ops[es.length]? = some o)
    (hb : ∀ e ∈ o.after, Region.binds .any e = true → L e.on = true) {Q : Exit → Act → World → Prop} {K : Act → World → Prop}
    (hQ : ∀ v t m X pl a w, KP v t m → St G X0 P0 W w0 t m n (x + ops.size) X pl a w → Q (.panic [{ v := v, recovered := false }]) a w) : wpOp P ops Q es.length K a w := by
  obtain ⟨hc, hLn, tL, mL, X, pl, hs, hT, hM⟩ := h
  obtain ⟨js, r, v, m', hdep, hri, hmask, hlk, hds, hfp, hwr, hok, hgv, hKP, hfr, hnone, hloc⟩ := hx
  have eN : es[es.length]? = none := List.getElem?_eq_none (Nat.le_refl _)
  have hN : L es.length = false := hLn _ (Nat.le_refl _)
  obtain ⟨_, agreeT, agreeM⟩ := agree hlen ht hc hLn hT hM (Nat.le_refl _) hN hb hmask hok (fun j ej hj hej _ => by
    have := (List.getElem?_eq_some_iff.1 hej).1; omega)
  have etE : tAt es tE es.length = tE := by simp [tAt, eN]
  have emE : mAt es mE es.length = mE := by simp [mAt, eN]
  rw [etE, hlk] at agreeT
  rw [emE, hfp] at agreeM
  obtain ⟨g1, g2⟩ := stays hlen ht
  have hlt : es.length < ops.size := (Array.getElem?_eq_some_iff.1 ho).1
  have hg : Region.wanted o (yielded ops a.tmps) = true := gval_wanted hs.env (by rw [gval_lk agreeT]; exact hgv)
  obtain ⟨t', hKP, ht'⟩ := dropT_elim hKP
  obtain ⟨m2, hKP, hm2⟩ := dropM_elim hKP
  have recs : ∀ (j : Nat) (ej : Ent), es[j]? = some ej → ej.r ∈ recsOf es [] es.length := fun j ej hej => recsOf_mem.2 ⟨j, ej, (List.getElem?_eq_some_iff.1 hej).1, hej, rfl⟩
  unfold wpOp
  simp only [ho, hg, if_true]
  have hop := hloc tL mL (ev_lk agreeT) agreeM (fun v2 m2' => v2 = v ∧ ∀ k, k ∉ js → m2'.get k = mL.get k) (fun m2' h => ⟨rfl, h⟩)
  refine .inl (opXJ_ok (id := x + es.length) hop hs.env hs.mem (hs.next _ ⟨by omega, fun j hj e => ?_⟩) (fun b hb => hs.fresh b (Nat.le_trans hs.ext.size hb)) ?_)
  · have : j = es.length := by omega
    subst this
    rw [hN] at hj; cases hj
  · rintro v2 m3 w' u ⟨rfl, hm3⟩ hst
    obtain ⟨X', pl', hs'⟩ := hs.put hst (d := none) (N' := fun id => x + ops.size ≤ id) (fun id hid => ⟨⟨by omega, fun j hj e => by
        have hjl : j < es.length := by
          rcases Nat.lt_or_ge j es.length with h | h
          · exact h
          · rw [hLn j h] at hj; cases hj
        omega⟩, fun e => by cases e; omega⟩) (by simp)
    refine hQ v2 t' m2 X' pl' _ w' hKP ⟨?_, ?_, hs'.size, hs'.next, hs'.ext, hs'.mono, hs'.news, hs'.fresh, hs'.calm, hs'.pm, hs'.cap⟩
    · intro k
      rw [ht' k]
      by_cases hk : setB (recsOf es [] es.length) k = true
      · rw [if_pos hk]; exact .dead _
      · rw [if_neg hk]
        have h1 := hs'.env k
        have h2 : look (putO tL none T.dead) k = look tE k := by
          show look tL k = _
          rw [hT k]
          refine (lastW_eq (dsI es) (fun i k => look (tAt es tE i) k) (fun i k hk => g1 i k hk) L k es.length es.length (Nat.le_refl _) fun j hj hkj => ?_).trans (congrArg (fun z => look z k) etE)
          obtain ⟨ej, hej⟩ : ∃ ej, es[j]? = some ej := ⟨_, List.getElem?_eq_getElem hj⟩
          rw [dsI_some hej] at hkj
          exact absurd (setB_iff.2 ⟨_, recs j ej hej, hkj⟩) hk
        rw [h2] at h1
        exact h1
    · refine ⟨?_, hs'.mem.placed, hs'.mem.apart, hs'.mem.xin, hs'.mem.glob⟩
      intro id b hg2
      rw [hm2 id] at hg2
      by_cases hk : wrB (recsOf es [] es.length) id = true
      · rw [if_pos hk] at hg2; cases hg2
      · rw [if_neg hk] at hg2
        have hnj : id ∉ js := fun h => by rw [hnone id h] at hg2; cases hg2
        refine hs'.mem.blk id b ?_
        rw [hm3 id hnj, ← hg2, hfr id hnj, hM id]
        refine (lastW_eq (wrI es) (fun i k => (mAt es mE i).get k) (fun i k hk => g2 i k hk) L id es.length es.length (Nat.le_refl _) fun j hj hkj => ?_).trans (congrArg (fun z : Mem => z.get id) emE)
        obtain ⟨ej, hej⟩ : ∃ ej, es[j]? = some ej := ⟨_, List.getElem?_eq_getElem hj⟩
        rw [wrI_some hej] at hkj
        exact absurd (wrB_iff.2 ⟨_, recs j ej hej, hkj⟩) hk

theorem edgesB_get : ∀ {l : List Oper} {k i : Nat} {o : Oper}, edgesB k l = true → l[i]? = some o → ∀ e ∈ o.after, Region.binds .any e = true → e.on < k + i
  | [], k, i, o, h, ho, e, he, hb => by simp at ho
  | p :: r, k, i, o, h, ho, e, he, hb => by
    simp only [edgesB] at h
    cases h1 : p.after.toList.all (fun e => !Region.binds .any e || Nat.blt e.on k) with
    | false => simp [h1] at h
    | true =>
      simp only [h1, cond_true] at h
      cases i with
      | zero =>
        simp only [List.getElem?_cons_zero, Option.some.injEq] at ho
        subst ho
        have := List.all_eq_true.1 h1 e (by simpa using he)
        simp only [hb, Bool.not_true, Bool.false_or] at this
        have h2 : e.on + 1 ≤ k := by simpa [Nat.blt] using this
        omega
      | succ i =>
        have := edgesB_get h (by simpa using ho) e he hb
        omega

theorem none_ready {L : Array Bool} (hsz : L.size = ops.size) (hE : edgesB 0 ops.toList = true) (h : Region.ready .any ops L = []) : ∀ j, j < ops.size → L.getD j false = true := by
  intro j
  induction j using Nat.strongRecOn with
  | _ j ih =>
    intro hj
    cases hL : L.getD j false with
    | true => rfl
    | false =>
      exfalso
      have : j ∈ Region.ready .any ops L := by
        rw [mem_ready]
        refine ⟨?_, ops[j], Array.getElem?_eq_getElem hj, ?_⟩
        · have : j < L.size := by omega
          simpa [this] using hL
        · intro e he hb
          have h1 := edgesB_get hE (i := j) (o := ops[j]) (by rw [Array.getElem?_toList]; exact Array.getElem?_eq_getElem hj) e he hb
          exact ih e.on (by omega) (by omega)
      rw [h] at this; cases this

theorem lastW_all {α : Type} (wr : Nat → List Nat) (g : Nat → Nat → α) (hg : ∀ i k, k ∉ wr i → g (i + 1) k = g i k) (L : Nat → Bool) (n : Nat) (hL : ∀ j, j < n → L j = true) (k : Nat) : lastW wr g L n k = g n k :=
  lastW_eq wr g hg L k n n (Nat.le_refl _) fun j hj _ => ⟨fun _ => hj, fun _ => hL j hj⟩

theorem MRel.cong {X : Xs} {pl : Pl} {w : World} {m m' : Mem} (h : MRel X W pl w m) (he : ∀ k, m'.get k = m.get k) : MRel X W pl w m' :=
  ⟨fun id b hb => h.blk id b (by rw [← he id]; exact hb), h.placed, h.apart, h.xin, h.glob⟩

theorem depB_get {p : Nat} : ∀ {l : List Oper} {i : Nat} {o : Oper}, depB p l = true → l[i]? = some o → ∃ e ∈ o.after, Region.binds .any e = true ∧ p ≤ e.on
  | [], i, o, h, ho => by simp at ho
  | q :: r, i, o, h, ho => by
    simp only [depB] at h
    cases h1 : q.after.toList.any (fun e => Region.binds .any e && Nat.ble p e.on) with
    | false => simp [h1] at h
    | true =>
      simp only [h1, cond_true] at h
      cases i with
      | zero =>
        simp only [List.getElem?_cons_zero, Option.some.injEq] at ho
        subst ho
        obtain ⟨e, he, h2⟩ := List.any_eq_true.1 h1
        rw [Bool.and_eq_true] at h2
        exact ⟨e, by simpa using he, h2.1, Nat.le_of_ble_eq_true h2.2⟩
      | succ i => exact depB_get h (by simpa using ho)

theorem any_walk (hlen : es.length ≤ ops.size) (ht : Told P ops n rl x es tE mE) (hE : edgesB 0 ops.toList = true) {Q : Exit → Act → World → Prop}
    (hfin : (es.length = ops.size ∧ ∀ X pl a w, St G X0 P0 W w0 tE mE n (x + ops.size) X pl a w → Q .normal a w) ∨
      (∃ o l2 KP, ops.toList.drop es.length = o :: l2 ∧ XAt P ops KP l2 es.length o tE mE (recsOf es [] es.length) ∧ ∀ v t m X pl a w, KP v t m → St G X0 P0 W w0 t m n (x + ops.size) X pl a w → Q (.panic [{ v := v, recovered := false }]) a w)) :
    ∀ (fuel : Nat) (L : Array Bool) (a : Act) (w : World), L.size = ops.size → openN (fun j => L.getD j false) ops.size ≤ fuel → Mid G X0 P0 W w0 ops n x es tE mE (fun j => L.getD j false) a w →
      wpAny P .any ops Q fuel L a w := by
  have fin : ∀ (L : Array Bool) (a : Act) (w : World), L.size = ops.size → Region.ready .any ops L = [] → Mid G X0 P0 W w0 ops n x es tE mE (fun j => L.getD j false) a w → Q .normal a w := by
    intro L a w hsz hr ⟨hc, hLn, tL, mL, X, pl, hs, hT, hM⟩
    have hall := none_ready hsz hE hr
    rcases hfin with ⟨hfull, hfin⟩ | ⟨o, l2, KP, hd, _⟩
    · obtain ⟨g1, g2⟩ := stays hlen ht
      have eN : es[es.length]? = none := List.getElem?_eq_none (Nat.le_refl _)
      refine hfin X pl a w ⟨?_, ?_, hs.size, ?_, hs.ext, hs.mono, hs.news, hs.fresh, hs.calm, hs.pm, hs.cap⟩
      · intro k
        have := hs.env k
        rw [hT k, lastW_all _ (fun i k => look (tAt es tE i) k) (fun i k hk => g1 i k hk) _ es.length (fun j hj => hall j (by omega)) k] at this
        simpa [tAt, eN] using this
      · refine hs.mem.cong fun k => ?_
        rw [hM k, lastW_all _ (fun i k => (mAt es mE i).get k) (fun i k hk => g2 i k hk) _ es.length (fun j hj => hall j (by omega)) k]
        simp [mAt, eN]
      · intro id hid
        refine hs.next id ⟨by omega, fun j hj e => ?_⟩
        have : j < L.size := by
          rcases Nat.lt_or_ge j L.size with h | h
          · exact h
          · simp [Array.getElem?_eq_none h] at hj
        omega
    · exfalso
      have hlt : es.length < ops.size := by
        rcases Nat.lt_or_ge es.length ops.size with h | h
        · exact h
        · rw [List.drop_of_length_le (by simpa using h)] at hd; cases hd
      have h1 := hall es.length hlt
      have h2 : L.getD es.length false = false := hLn es.length (Nat.le_refl _)
      rw [h2] at h1; cases h1
  intro fuel
  induction fuel with
  | zero =>
    intro L a w hsz hf hm
    have hr : Region.ready .any ops L = [] := by
      cases h : Region.ready .any ops L with
      | nil => rfl
      | cons j r =>
        exfalso
        have hj : j ∈ Region.ready .any ops L := by rw [h]; simp
        rw [mem_ready] at hj
        obtain ⟨h1, o, ho, _⟩ := hj
        have hlt : j < ops.size := (Array.getElem?_eq_some_iff.1 ho).1
        have := openN_zero (Nat.le_zero.1 hf) j hlt
        have hl : j < L.size := by omega
        simp [hl] at h1 this
        rw [h1] at this; cases this
    exact ⟨hr, fin L a w hsz hr hm⟩
  | succ fuel ih =>
    intro L a w hsz hf hm
    refine ⟨fun hr => fin L a w hsz hr hm, ?_⟩
    intro i hi
    rw [mem_ready] at hi
    obtain ⟨h1, o, ho, hall⟩ := hi
    have hlt : i < ops.size := (Array.getElem?_eq_some_iff.1 ho).1
    have hl : i < L.size := by omega
    have h1' : L.getD i false = false := by simpa [hl] using h1
    have hset : (fun j => (L.setIfInBounds i true).getD j false) = fun j => L.getD j false || j == i := by
      funext j
      by_cases e : j = i
      · subst e; simp [hl]
      · rw [getD_set_ne false (Ne.symm e)]; simp [e]
    rcases Nat.lt_or_ge i es.length with hin | hin
    · refine hm.step hlen ht hin ho h1' hall ?_
      intro a' w' hm'
      refine ih _ a' w' (by simp [hsz]) ?_ (by rw [hset]; exact hm')
      rw [hset]
      have := openN_set (L := fun j => L.getD j false) h1' hlt
      omega
    · rcases hfin with ⟨hfull, hfin⟩ | ⟨o', l2, KP, hd, hx, hQ⟩
      · omega
      · have ho' : ops[es.length]? = some o' := by
          rw [← Array.getElem?_toList]
          have : (ops.toList.drop es.length)[0]? = some o' := by rw [hd]; rfl
          rw [List.getElem?_drop] at this
          simpa using this
        rcases Nat.lt_or_ge es.length i with hlt2 | hge
        · exfalso
          have hdep := hx.choose_spec.choose_spec.choose_spec.choose_spec.1
          have hoi : l2[i - es.length - 1]? = some o := by
            have h2 : (ops.toList.drop es.length)[i - es.length]? = some o := by
              rw [List.getElem?_drop, Array.getElem?_toList, show es.length + (i - es.length) = i by omega]; exact ho
            rw [hd, show i - es.length = (i - es.length - 1) + 1 by omega, List.getElem?_cons_succ] at h2
            exact h2
          obtain ⟨e, he, hb, hp⟩ := depB_get hdep hoi
          have h2 := hall e he hb
          have h3 : L.getD e.on false = false := hm.2.1 e.on hp
          rw [h3] at h2; cases h2
        · obtain rfl : i = es.length := by omega
          obtain rfl : o' = o := by rw [ho] at ho'; exact (Option.some.inj ho').symm
          exact hm.pan hlen ht hx ho hall hQ

/-- A world of which a draw is taken. -/
theorem StG.drawn {t : List (Nat × T)} {m : Mem} {N : Nat → Prop} {X : Xs} {pl : Pl} {a : Act} {w : World} {k : Nat} (h : StG G X0 P0 W w0 t m n N X pl a w) : StG G X0 P0 W w0 t m n N X pl a { w with drawn := k } := by
  have hx : XMono X X w { w with drawn := k } := fun b off hb => ⟨hb, rfl⟩
  have hp : PMono pl pl w { w with drawn := k } := fun id l hl => ⟨⟨l, hl, l.le_refl⟩, fun _ _ _ _ _ hr => hr⟩
  refine ⟨fun i => (h.env i).mono hx hp, ⟨?_, h.mem.placed, h.mem.apart, h.mem.xin, h.mem.glob⟩, h.size, h.next, ⟨h.ext.size, h.ext.os, h.ext.output, h.ext.tape, h.ext.keep⟩, fun b off hb => h.mono b off hb, h.news, h.fresh, h.calm, h.pm.trans hp, fun p hpc => (h.cap p hpc).mono hx hp⟩
  intro id b hb
  obtain ⟨l, hl, hok⟩ := h.mem.blk id b hb
  refine ⟨l, hl, ?_⟩
  cases b with
  | own sz rows =>
    rcases hok with h1 | ⟨b, h1, cs, e, fr, h2, h3, h4, h5⟩
    · exact .inl h1
    · refine .inr ⟨b, h1, cs, e, fr, h2, h3, h4, fun i row hr => ⟨(h5 i row hr).1, fun j t ht => ?_⟩⟩
      obtain ⟨v, hv, hvr⟩ := (h5 i row hr).2 j t ht
      exact ⟨v, hv, hvr.mono hx hp⟩
  | tok sz n => exact hok
  | iter s pos => exact hok
  | map kv => exact hok

theorem evenB_departs {l : List Oper} (h : evenB l = true) : ∀ o ∈ l, ∀ e ∈ o.after, Region.binds .any e = true := by
  induction l with
  | nil => intro o ho; cases ho
  | cons p r ih =>
    intro o ho e he
    simp only [evenB] at h
    cases h1 : p.after.toList.all (Region.binds .any) with
    | false => simp [h1] at h
    | true =>
      simp only [h1, cond_true] at h
      rcases List.mem_cons.1 ho with rfl | ho
      · exact List.all_eq_true.1 h1 e (by simpa using he)
      · exact ih h o ho e he
theorem mixB_schedule (h : mixB P ops.toList = true) (t : Nat) : Region.schedule (P.follows .mixedOrders) ops t = Region.linearise .any ops t := by
  unfold mixB at h
  unfold Region.schedule
  cases hev : evenB ops.toList with
  | true =>
    have : Region.departs ops = false := by
      unfold Region.departs
      cases hd : ops.any (·.after.any fun e => !Region.binds .any e) with
      | false => rfl
      | true =>
        obtain ⟨o, ho, h2⟩ := Array.any_eq_true'.1 hd
        obtain ⟨e, he, h3⟩ := Array.any_eq_true'.1 h2
        rw [evenB_departs hev o (by simpa using ho) e he] at h3
        cases h3
    simp [this]
  | false =>
    simp only [hev, cond_false] at h
    simp [h]

/-- A region that draws. -/
theorem drawn_ok {id : Nat} {t : List (Nat × T)} {m : Mem} {X : Xs} {pl : Pl} {a : Act} {w : World} {KP : Value → List (Nat × T) → Mem → Prop} {K : List (Nat × T) → Mem → Prop} {Q : Exit → Act → World → Prop}
    (hE : edgesB 0 ops.toList = true) (hmix : mixB P ops.toList = true) (h : opsD P ops n rl x KP ops.toList 0 t m [] K) (hs : St G X0 P0 W w0 t m n x X pl a w)
    (hfin : ∀ t m X pl a w, K t m → St G X0 P0 W w0 t m n (x + ops.size) X pl a w → Q .normal a w)
    (hpan : ∀ v t m X pl a w, KP v t m → St G X0 P0 W w0 t m n (x + ops.size) X pl a w → Q (.panic [{ v := v, recovered := false }]) a w) : (Code.region id ops true).wp P Q a w := by
  have h0 : ∀ j, (Array.replicate ops.size false).getD j false = false := by
    intro j
    rw [Array.getD_eq_getD_getElem?, Array.getElem?_replicate]
    split <;> rfl
  have hl0 : ∀ {α : Type} (wr : Nat → List Nat) (g : Nat → Nat → α) (k : Nat) (n : Nat), lastW wr g (fun j => (Array.replicate ops.size false).getD j false) n k = g 0 k := by
    intro α wr g k n
    induction n with
    | zero => rfl
    | succ n ih =>
      rw [← ih]
      simp only [lastW]
      rw [if_neg (fun e => by rw [h0] at e; cases e.1)]
  have go : ∀ (es : List Ent) (tE : List (Nat × T)) (mE : Mem) (l1 : List Oper), TraceOk P ops n rl x l1 0 t m [] es tE mE → (∀ i o, i < l1.length → ops[i]? = some o → l1[i]? = some o) → l1.length ≤ ops.size →
      ((es.length = ops.size ∧ ∀ X pl a w, St G X0 P0 W w0 tE mE n (x + ops.size) X pl a w → Q .normal a w) ∨
      (∃ o l2 KP, ops.toList.drop es.length = o :: l2 ∧ XAt P ops KP l2 es.length o tE mE (recsOf es [] es.length) ∧ ∀ v t m X pl a w, KP v t m → St G X0 P0 W w0 t m n (x + ops.size) X pl a w → Q (.panic [{ v := v, recovered := false }]) a w)) →
      (Code.region id ops true).wp P Q a w := by
    intro es tE mE l1 htr hl1 hle hfin
    obtain ⟨hlen, hget⟩ := trace_get htr
    obtain ⟨ft, fm⟩ := trace_first htr
    have ht : Told P ops n rl x es tE mE := fun i o hi ho => hget i o (hl1 i o (by omega) ho)
    refine wp_region_draw fun τ => ?_
    rw [mixB_schedule hmix τ]
    refine wpAny_sound ops.size τ _ a _ ?_
    refine any_walk (by omega) ht hE hfin ops.size _ a _ (by simp) (openN_none fun _ _ => rfl) ?_
    refine ⟨fun i o ho hL => absurd ((h0 i).symm.trans hL) Bool.false_ne_true, fun j _ => h0 j, t, m, X, pl, ?_, ?_, ?_⟩
    · exact StG.drawn ⟨hs.env, hs.mem, hs.size, fun id hid => hs.next id hid.1, hs.ext, hs.mono, hs.news, hs.fresh, hs.calm, hs.pm, hs.cap⟩
    · intro k; rw [hl0, ft]
    · intro k; rw [hl0, fm]
  rcases opsD_trace _ _ _ _ _ h with ⟨es, tE, mE, htr, hKE⟩ | ⟨l1, o, l2, es, tE, mE, hl, htr, hx⟩
  · have hlen := (trace_get htr).1
    exact go es tE mE ops.toList htr (fun i o _ ho => by rw [Array.getElem?_toList]; exact ho) (by simp) (.inl ⟨by simpa using hlen, fun X pl a w hst => hfin tE mE X pl a w hKE hst⟩)
  · have hlen := (trace_get htr).1
    refine go es tE mE l1 htr (fun i o' hi ho => ?_) ?_ (.inr ⟨o, l2, KP, ?_, ?_, hpan⟩)
    · rw [← Array.getElem?_toList, hl, List.getElem?_append_left hi] at ho; exact ho
    · have := congrArg List.length hl
      rw [List.length_append] at this
      have h2 : ops.toList.length = ops.size := by simp
      omega
    · rw [hl, hlen, List.drop_left]
    · have e1 : recsOf es [] es.length = (es.map (·.r)).reverse ++ [] := by simp [recsOf]
      rw [e1, hlen]
      rw [Nat.zero_add] at hx
      exact hx
end
end Go.AW

/- Ids below a number. -/
set_option linter.unusedVariables false
set_option linter.unusedSimpArgs false
namespace Go.AW
open Go
/-- Ids below a number, in a flat value. -/
def lt0 (x : Nat) : T → Prop
  | .dead | .lit _ | .sl none _ _ | .ifc _ _ | .vp _ _ => True
  | .sl (some id) _ _ | .ptr id _ _ | .sref id _ _ | .itr id | .mref id => Nat.blt id x = true
  | _ => False
def ltT (x : Nat) : T → Prop
  | .agg cs => ∀ c ∈ cs, lt0 x c
  | .tup cs => ∀ c ∈ cs, lt0 x c
  | .clo _ cs => ∀ c ∈ cs, lt0 x c
  | t => lt0 x t

section
variable {X : Xs} {pl pl' : Pl} {w : World} {x : Nat}
theorem lt_of_blt {a b : Nat} (h : Nat.blt a b = true) : a < b := by
  have : a + 1 ≤ b := by simpa [Nat.blt] using h
  exact this
theorem lt0_vrel (h : ∀ id, id < x → ∀ l, pl id = some l → pl' id = some l) {t : T} (ht : lt0 x t) {v : Value} (hv : VRel X pl w t v) : VRel X pl' w t v := by
  cases hv with
  | dead v => exact .dead v
  | lit v => exact .lit v
  | sl tok sz rows v hb htk =>
    refine .sl tok sz rows v hb fun id e => ?_
    subst e
    obtain ⟨l, hl, hm⟩ := htk id rfl
    exact ⟨l, h id (lt_of_blt ht) l hl, hm⟩
  | agg => exact ht.elim
  | tup => exact ht.elim
  | clo => exact ht.elim
  | ifc t x v h => exact .ifc t x v h
  | ptr id row off b sz hp => exact .ptr id row off b sz (hp.imp (h id (lt_of_blt ht) _) (h id (lt_of_blt ht) _))
  | srefn id hp => exact .srefn id (hp.imp (h id (lt_of_blt ht) _) (h id (lt_of_blt ht) _))
  | sref id lo len b sz cap hp h1 h2 =>
    refine .sref id lo len b sz cap (hp.imp (h id (lt_of_blt ht) _) (h id (lt_of_blt ht) _)) h1 fun e => ?_
    rcases hp with hp | hp
    · exact h2 hp
    · rw [h id (lt_of_blt ht) _ hp] at e; cases e
  | srefz id lo b sz a hp => exact .srefz id lo b sz a (hp.imp (h id (lt_of_blt ht) _) (h id (lt_of_blt ht) _))
  | vp row off b o cs h => exact .vp row off b o cs h
  | itr id b hp => exact .itr id b (h id (lt_of_blt ht) _ hp)
  | mref id b hp => exact .mref id b (h id (lt_of_blt ht) _ hp)

theorem ltT_vrel (h : ∀ id, id < x → ∀ l, pl id = some l → pl' id = some l) {t : T} (ht : ltT x t) {v : Value} (hv : VRel X pl w t v) : VRel X pl' w t v := by
  cases t with
  | agg ts =>
    obtain ⟨_, rfl, hl, hh⟩ := hv.agg_inv
    exact .agg ts _ hl fun i t v h1 h2 => lt0_vrel h (ht t (List.mem_of_getElem? h1)) (hh i t v h1 h2)
  | tup ts =>
    cases hv with
    | tup ts vs hl hh => exact .tup ts vs hl fun i t v h1 h2 => lt0_vrel h (ht t (List.mem_of_getElem? h1)) (hh i t v h1 h2)
  | clo f ts =>
    cases hv with
    | clo f ts vs hl hh => exact .clo f ts vs hl fun i t v h1 h2 => lt0_vrel h (ht t (List.mem_of_getElem? h1)) (hh i t v h1 h2)
  | _ => refine lt0_vrel (x := x) h ?_ hv; exact ht

end
end Go.AW
