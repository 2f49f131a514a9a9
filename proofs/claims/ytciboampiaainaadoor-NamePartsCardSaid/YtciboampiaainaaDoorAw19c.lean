/- Regions that draw, on: the walk over any order. -/
import Derived.Test.YtciboampiaainaaDoorAw19b
import Derived.Orders
set_option linter.unusedVariables false
set_option linter.unusedSimpArgs false
namespace Go.AW
open Go

/-- How many are not yet done. -/
def openN (L : Nat → Bool) : Nat → Nat
  | 0 => 0
  | i + 1 => openN L i + (if L i = true then 0 else 1)

theorem openN_zero {L : Nat → Bool} : ∀ {n : Nat}, openN L n = 0 → ∀ j, j < n → L j = true
  | 0, _, j, hj => by omega
  | n + 1, h, j, hj => by
    simp only [openN] at h
    by_cases hL : L n = true
    · by_cases e : j = n
      · subst e; exact hL
      · exact openN_zero (L := L) (n := n) (by omega) j (by omega)
    · simp [hL] at h
theorem openN_none {L : Nat → Bool} : ∀ {n : Nat}, (∀ j, n ≤ j → L j = L j) → openN L n ≤ n
  | 0, _ => by simp [openN]
  | n + 1, _ => by
    have := openN_none (L := L) (n := n) (fun _ _ => rfl)
    simp only [openN]; split <;> omega
theorem openN_same {L : Nat → Bool} {i : Nat} : ∀ {n : Nat}, n ≤ i → openN (fun j => L j || j == i) n = openN L n
  | 0, _ => rfl
  | n + 1, h => by
    have hne : (n == i) = false := by simp; omega
    simp only [openN, hne, Bool.or_false]
    rw [openN_same (by omega)]
theorem openN_set {L : Nat → Bool} {i : Nat} (hi : L i = false) : ∀ {n : Nat}, i < n → openN (fun j => L j || j == i) n + 1 = openN L n
  | 0, h => by omega
  | n + 1, h => by
    simp only [openN]
    by_cases e : n = i
    · subst e
      rw [openN_same (Nat.le_refl _)]
      simp [hi]
    · have hne : (n == i) = false := by simp [e]
      have := openN_set hi (n := n) (by omega)
      simp only [hne, Bool.or_false]
      omega

section
variable {P : Program} {ops : Array Oper} {n : Nat} {rl : List Nat} {x : Nat} {es : List Ent} {tE : List (Nat × T)} {mE : Mem}
variable {X0 : Xs} {P0 : Pl} {W : Nat → Prop} {w0 : World}

theorem ev_lk {all : Array Oper} {o : Oper} {ρ ρ2 : List (Nat × T)} (h : ∀ k ∈ looksL all o, look ρ2 k = look ρ k) : ∀ y ∈ o.op.operands.toList, ev ρ2 y = ev ρ y := by
  intro y hy
  cases y with
  | tmp t =>
    have : t ∈ looksL all o := by
      unfold looksL
      exact List.mem_append_left _ (List.mem_filterMap.2 ⟨.tmp t, hy, rfl⟩)
    simp only [ev]
    exact h t this
  | _ => rfl

theorem gval_lk {all : Array Oper} {o : Oper} {ρ ρ2 : List (Nat × T)} (h : ∀ k ∈ looksL all o, look ρ2 k = look ρ k) : gval ρ2 all o.guard = gval ρ all o.guard := by
  unfold gval
  cases hg : o.guard with
  | none => rfl
  | some g =>
    obtain ⟨j, w⟩ := g
    simp only
    cases ho : all[j]? with
    | none => rfl
    | some q =>
      simp only
      cases hd : q.dst with
      | none => rfl
      | some d =>
        simp only
        have : d ∈ looksL all o := by
          unfold looksL
          refine List.mem_append_right _ ?_
          simp only [hg, ho, hd, Option.toList_some, List.mem_singleton]
        rw [h d this]

/-- In the midst of a region: what is done, and what it has left. -/
def Mid (X0 : Xs) (P0 : Pl) (W : Nat → Prop) (w0 : World) (ops : Array Oper) (n x : Nat) (es : List Ent) (tE : List (Nat × T)) (mE : Mem) (L : Nat → Bool) (a : Act) (w : World) : Prop :=
  Closed ops L ∧ ∃ tL mL X pl, StG X0 P0 W w0 tL mL n (fun id => x ≤ id ∧ ∀ j, L j = true → id ≠ x + j) X pl a w ∧
    (∀ k, look tL k = lastW (dsI es) (fun i k => look (tAt es tE i) k) L ops.size k) ∧ (∀ k, mL.get k = lastW (wrI es) (fun i k => (mAt es mE i).get k) L ops.size k)

theorem Mid.step (hlen : es.length = ops.size) (ht : Told P ops n rl x es tE mE) {L : Nat → Bool} {a : Act} {w : World} (h : Mid X0 P0 W w0 ops n x es tE mE L a w) {i : Nat} {o : Oper} (ho : ops[i]? = some o) (hi : L i = false)
    (hb : ∀ e ∈ o.after, Region.binds .any e = true → L e.on = true) {Q : Exit → Act → World → Prop} {K : Act → World → Prop} (hK : ∀ a w, Mid X0 P0 W w0 ops n x es tE mE (fun j => L j || j == i) a w → K a w) : wpOp P ops Q i K a w := by
  obtain ⟨hc, tL, mL, X, pl, hs, hT, hM⟩ := h
  obtain ⟨e, he, q⟩ := ht i o ho
  have hlt : i < ops.size := (Array.getElem?_eq_some_iff.1 ho).1
  have hmask := mask_in ht hc i o e ho he hb
  have hni : e.r.i = i := by rw [q.num]; omega
  obtain ⟨g1, g2⟩ := stays hlen ht
  -- those that are apart
  have before : ∀ j ej, j < i → es[j]? = some ej → L j = true ∨ Apart ej.r e.r := by
    intro j ej hj hej
    rcases okRec_mem q.ok (recsOf_mem.2 ⟨j, ej, hj, hej, rfl⟩) with h | h
    · obtain ⟨ej', hej', qj⟩ := ht j _ (Array.getElem?_eq_getElem (by omega))
      obtain rfl : ej' = ej := by rw [hej] at hej'; exact (Option.some.inj hej').symm
      have : ej'.r.i = j := by rw [qj.num]; omega
      rw [this] at h
      exact .inl (hmask j h)
    · exact .inr h
  have after : ∀ j ej, i < j → j < ops.size → es[j]? = some ej → L j = true → Apart e.r ej.r := by
    intro j ej hj hjn hej hL
    obtain ⟨ej', hej', qj⟩ := ht j _ (Array.getElem?_eq_getElem hjn)
    obtain rfl : ej' = ej := by rw [hej] at hej'; exact (Option.some.inj hej').symm
    rcases okRec_mem qj.ok (recsOf_mem.2 ⟨i, e, hj, he, rfl⟩) with h | h
    · have := mask_in ht hc j _ _ (Array.getElem?_eq_getElem hjn) hej (hc j _ (Array.getElem?_eq_getElem hjn) hL) e.r.i h
      rw [hni, hi] at this; cases this
    · exact h
  have ex : ∀ j, j < ops.size → ∃ ej, es[j]? = some ej := fun j hj => ⟨_, List.getElem?_eq_getElem (by omega)⟩
  -- what it looks at
  have agreeT : ∀ k ∈ e.r.lk, look tL k = look e.t k := by
    intro k hk
    rw [hT k, ← tAt_some (tE := tE) he]
    refine lastW_eq (dsI es) (fun i k => look (tAt es tE i) k) (fun i k hk => g1 i k hk) L k ops.size i (by omega) ?_
    intro j hj hkj
    obtain ⟨ej, hej⟩ := ex j hj
    rw [dsI_some hej] at hkj
    rcases Nat.lt_trichotomy j i with hji | rfl | hji
    · rcases before j ej hji hej with h | h
      · exact ⟨fun _ => hji, fun _ => h⟩
      · exact (h.dl k hkj hk).elim
    · exact ⟨fun h => (by rw [hi] at h; cases h), fun h => by omega⟩
    · refine ⟨fun h => ((after j ej hji hj hej h).ld k hkj hk).elim, fun h => by omega⟩
  have agreeM : ∀ k ∈ e.r.fp, mL.get k = e.m.get k := by
    intro k hk
    rw [hM k, ← mAt_some (mE := mE) he]
    refine lastW_eq (wrI es) (fun i k => (mAt es mE i).get k) (fun i k hk => g2 i k hk) L k ops.size i (by omega) ?_
    intro j hj hkj
    obtain ⟨ej, hej⟩ := ex j hj
    rw [wrI_some hej] at hkj
    rcases Nat.lt_trichotomy j i with hji | rfl | hji
    · rcases before j ej hji hej with h | h
      · exact ⟨fun _ => hji, fun _ => h⟩
      · exact (h.wf k hkj hk).elim
    · exact ⟨fun h => (by rw [hi] at h; cases h), fun h => by omega⟩
    · refine ⟨fun h => ((after j ej hji hj hej h).fw k hkj hk).elim, fun h => by omega⟩
  have hTn : ∀ tv, tv = e.v → ∀ k, look (putO tL o.dst tv) k = lastW (dsI es) (fun i k => look (tAt es tE i) k) (fun j => L j || j == i) ops.size k := by
    rintro tv rfl k
    rw [lastW_add (dsI es) (fun i k => look (tAt es tE i) k) L i k ?_ ops.size, look_putO, ← hT k]
    · simp only [hlt, true_and, dsI_some he, q.ds]
      by_cases hk : k ∈ o.dst.toList
      · simp only [hk, if_true]
        rw [q.tnext, look_putO, if_pos hk]
      · simp only [hk, if_false]
    · intro hk j hL hkj
      rcases Nat.lt_trichotomy j i with hji | rfl | hji
      · exact hji
      · rw [hi] at hL; cases hL
      · by_cases hj : j < ops.size
        · obtain ⟨ej, hej⟩ := ex j hj
          rw [dsI_some hej] at hkj
          rw [dsI_some he] at hk
          exact ((after j ej hji hj hej hL).dd k hkj hk).elim
        · have : es[j]? = none := List.getElem?_eq_none (by omega)
          simp [dsI, this] at hkj
  have hMn : ∀ m' : Mem, (∀ k ∈ e.r.wr, m'.get k = e.m'.get k) → (∀ k, k ∉ e.r.wr → m'.get k = mL.get k) →
      ∀ k, m'.get k = lastW (wrI es) (fun i k => (mAt es mE i).get k) (fun j => L j || j == i) ops.size k := by
    intro m' h1 h2 k
    rw [lastW_add (wrI es) (fun i k => (mAt es mE i).get k) L i k ?_ ops.size, ← hM k]
    · simp only [hlt, true_and, wrI_some he]
      by_cases hk : k ∈ e.r.wr
      · simp only [hk, if_true]
        rw [h1 k hk, q.mnext]
      · simp only [hk, if_false]
        exact h2 k hk
    · intro hk j hL hkj
      rcases Nat.lt_trichotomy j i with hji | rfl | hji
      · exact hji
      · rw [hi] at hL; cases hL
      · by_cases hj : j < ops.size
        · obtain ⟨ej, hej⟩ := ex j hj
          rw [wrI_some hej] at hkj
          rw [wrI_some he] at hk
          exact ((after j ej hji hj hej hL).ww k hkj hk).elim
        · have : es[j]? = none := List.getElem?_eq_none (by omega)
          simp [wrI, this] at hkj
  have hcn : Closed ops (fun j => L j || j == i) := by
    intro j oj hoj hL ed hed hbd
    simp only [Bool.or_eq_true, beq_iff_eq] at hL ⊢
    rcases hL with hL | rfl
    · exact .inl (hc j oj hoj hL ed hed hbd)
    · obtain rfl : oj = o := by rw [ho] at hoj; exact (Option.some.inj hoj).symm
      exact .inl (hb ed hed hbd)
  have hlk : ∀ k ∈ looksL ops o, look tL k = look e.t k := by rw [← q.lk]; exact agreeT
  have hg : Region.wanted o (yielded ops a.tmps) = e.go := gval_wanted hs.env (by rw [gval_lk hlk]; exact q.gv)
  unfold wpOp
  simp only [ho, hg]
  cases hgo : e.go with
  | true =>
    simp only [if_true]
    obtain ⟨y1, y2, y3⟩ := q.yes hgo
    rw [Nat.zero_add] at y1 y2 y3
    have hop := y3.2 tL mL (ev_lk hlk) (by rw [← y1]; exact agreeM) (fun v m2' => v = e.v ∧ (∀ k ∈ e.r.wr, m2'.get k = e.m'.get k) ∧ (∀ k, k ∉ e.r.wr → m2'.get k = mL.get k))
      (fun m2' h1 h2 => ⟨rfl, by rw [y2]; exact h1, by rw [y2]; exact h2⟩)
    refine .inl (opM_ok hop hs.env hs.mem (hs.next _ ⟨by omega, fun j hj e => ?_⟩) (fun b hb => hs.fresh b (Nat.le_trans hs.ext.size hb)) ?_)
    · have : j = i := by omega
      subst this
      rw [hi] at hj; cases hj
    · rintro v tv m' w' ⟨k1, k2, k3⟩ hst
      refine hK _ _ ?_
      obtain ⟨X', pl', hs'⟩ := hs.put hst (N' := fun id => x ≤ id ∧ ∀ j, (L j || j == i) = true → id ≠ x + j) (fun id hid => ⟨⟨hid.1, fun j hj => hid.2 j (by simp [hj])⟩, by
        have := hid.2 i (by simp)
        cases (isNew o.op || mcall rl o)
        · simp
        · simp only [if_true, ne_eq, Option.some.injEq]; exact fun e => this e.symm⟩) q.dst
      exact ⟨hcn, _, _, X', pl', hs', hTn tv k1, hMn m' k2 k3⟩
  | false =>
    simp only [Bool.false_eq_true, if_false]
    obtain ⟨y1, y2, y3, y4⟩ := q.no hgo
    refine hK _ _ ?_
    obtain ⟨X', pl', hs'⟩ := hs.put (StepOk.same hs.mem none (VRel.lit undef)) (N' := fun id => x ≤ id ∧ ∀ j, (L j || j == i) = true → id ≠ x + j) (fun id hid => ⟨⟨hid.1, fun j hj => hid.2 j (by simp [hj])⟩, by simp⟩) q.dst
    exact ⟨hcn, _, _, X', pl', hs', hTn _ y3.symm, hMn mL (by rw [y2]; simp) (fun _ _ => rfl)⟩

theorem edgesB_get : ∀ {l : List Oper} {k i : Nat} {o : Oper}, edgesB k l = true → l[i]? = some o → ∀ e ∈ o.after, Region.binds .any e = true → e.on < k + i
  | [], k, i, o, h, ho, e, he, hb => by simp at ho
  | p :: r, k, i, o, h, ho, e, he, hb => by
    simp only [edgesB] at h
    cases h1 : p.after.toList.all (fun e => !Region.binds .any e || Nat.blt e.on k) with
    | false => simp [h1] at h
    | true =>
      simp only [h1, cond_true] at h
      cases i with
      | zero =>
        simp only [List.getElem?_cons_zero, Option.some.injEq] at ho
        subst ho
        have := List.all_eq_true.1 h1 e (by simpa using he)
        simp only [hb, Bool.not_true, Bool.false_or] at this
        have h2 : e.on + 1 ≤ k := by simpa [Nat.blt] using this
        omega
      | succ i =>
        have := edgesB_get h (by simpa using ho) e he hb
        omega

theorem none_ready {L : Array Bool} (hsz : L.size = ops.size) (hE : edgesB 0 ops.toList = true) (h : Region.ready .any ops L = []) : ∀ j, j < ops.size → L.getD j false = true := by
  intro j
  induction j using Nat.strongRecOn with
  | _ j ih =>
    intro hj
    cases hL : L.getD j false with
    | true => rfl
    | false =>
      exfalso
      have : j ∈ Region.ready .any ops L := by
        rw [mem_ready]
        refine ⟨?_, ops[j], Array.getElem?_eq_getElem hj, ?_⟩
        · have : j < L.size := by omega
          simpa [this] using hL
        · intro e he hb
          have h1 := edgesB_get hE (i := j) (o := ops[j]) (by rw [Array.getElem?_toList]; exact Array.getElem?_eq_getElem hj) e he hb
          exact ih e.on (by omega) (by omega)
      rw [h] at this; cases this

theorem lastW_all {α : Type} (wr : Nat → List Nat) (g : Nat → Nat → α) (hg : ∀ i k, k ∉ wr i → g (i + 1) k = g i k) (L : Nat → Bool) (n : Nat) (hL : ∀ j, j < n → L j = true) (k : Nat) : lastW wr g L n k = g n k :=
  lastW_eq wr g hg L k n n (Nat.le_refl _) fun j hj _ => ⟨fun _ => hj, fun _ => hL j hj⟩

theorem MRel.cong {X : Xs} {pl : Pl} {w : World} {m m' : Mem} (h : MRel X W pl w m) (he : ∀ k, m'.get k = m.get k) : MRel X W pl w m' :=
  ⟨fun id b hb => h.blk id b (by rw [← he id]; exact hb), h.placed, h.apart, h.xin, h.glob⟩

theorem any_walk (hlen : es.length = ops.size) (ht : Told P ops n rl x es tE mE) (hE : edgesB 0 ops.toList = true) {Q : Exit → Act → World → Prop}
    (hfin : ∀ X pl a w, St X0 P0 W w0 tE mE n (x + ops.size) X pl a w → Q .normal a w) :
    ∀ (fuel : Nat) (L : Array Bool) (a : Act) (w : World), L.size = ops.size → openN (fun j => L.getD j false) ops.size ≤ fuel → Mid X0 P0 W w0 ops n x es tE mE (fun j => L.getD j false) a w →
      wpAny P .any ops Q fuel L a w := by
  have fin : ∀ (L : Array Bool) (a : Act) (w : World), L.size = ops.size → Region.ready .any ops L = [] → Mid X0 P0 W w0 ops n x es tE mE (fun j => L.getD j false) a w → Q .normal a w := by
    intro L a w hsz hr ⟨hc, tL, mL, X, pl, hs, hT, hM⟩
    have hall := none_ready hsz hE hr
    obtain ⟨g1, g2⟩ := stays hlen ht
    have eN : es[ops.size]? = none := List.getElem?_eq_none (by omega)
    refine hfin X pl a w ⟨?_, ?_, hs.size, ?_, hs.ext, hs.mono, hs.news, hs.fresh, hs.calm, hs.pm⟩
    · intro k
      have := hs.env k
      rw [hT k, lastW_all _ (fun i k => look (tAt es tE i) k) (fun i k hk => g1 i k hk) _ ops.size hall k] at this
      simpa [tAt, eN] using this
    · refine hs.mem.cong fun k => ?_
      rw [hM k, lastW_all _ (fun i k => (mAt es mE i).get k) (fun i k hk => g2 i k hk) _ ops.size hall k]
      simp [mAt, eN]
    · intro id hid
      refine hs.next id ⟨by omega, fun j hj e => ?_⟩
      have : j < L.size := by
        rcases Nat.lt_or_ge j L.size with h | h
        · exact h
        · simp [Array.getElem?_eq_none h] at hj
      omega
  intro fuel
  induction fuel with
  | zero =>
    intro L a w hsz hf hm
    have hr : Region.ready .any ops L = [] := by
      cases h : Region.ready .any ops L with
      | nil => rfl
      | cons j r =>
        exfalso
        have hj : j ∈ Region.ready .any ops L := by rw [h]; simp
        rw [mem_ready] at hj
        obtain ⟨h1, o, ho, _⟩ := hj
        have hlt : j < ops.size := (Array.getElem?_eq_some_iff.1 ho).1
        have := openN_zero (Nat.le_zero.1 hf) j hlt
        have hl : j < L.size := by omega
        simp [hl] at h1 this
        rw [h1] at this; cases this
    exact ⟨hr, fin L a w hsz hr hm⟩
  | succ fuel ih =>
    intro L a w hsz hf hm
    refine ⟨fun hr => fin L a w hsz hr hm, ?_⟩
    intro i hi
    rw [mem_ready] at hi
    obtain ⟨h1, o, ho, hall⟩ := hi
    have hlt : i < ops.size := (Array.getElem?_eq_some_iff.1 ho).1
    have hl : i < L.size := by omega
    have h1' : L.getD i false = false := by simpa [hl] using h1
    have hset : (fun j => (L.setIfInBounds i true).getD j false) = fun j => L.getD j false || j == i := by
      funext j
      by_cases e : j = i
      · subst e; simp [hl]
      · rw [getD_set_ne false (Ne.symm e)]; simp [e]
    refine hm.step hlen ht ho h1' hall ?_
    intro a' w' hm'
    refine ih _ a' w' (by simp [hsz]) ?_ (by rw [hset]; exact hm')
    rw [hset]
    have := openN_set (L := fun j => L.getD j false) h1' hlt
    omega

/-- A world of which a draw is taken. -/
theorem StG.drawn {t : List (Nat × T)} {m : Mem} {N : Nat → Prop} {X : Xs} {pl : Pl} {a : Act} {w : World} {k : Nat} (h : StG X0 P0 W w0 t m n N X pl a w) : StG X0 P0 W w0 t m n N X pl a { w with drawn := k } := by
  have hx : XMono X X w { w with drawn := k } := fun b off hb => ⟨hb, rfl⟩
  have hp : PMono pl pl w { w with drawn := k } := fun id l hl => ⟨⟨l, hl, l.le_refl⟩, fun _ _ _ _ _ hr => hr⟩
  refine ⟨fun i => (h.env i).mono hx hp, ⟨?_, h.mem.placed, h.mem.apart, h.mem.xin, h.mem.glob⟩, h.size, h.next, ⟨h.ext.size, h.ext.os, h.ext.output, h.ext.tape, h.ext.keep⟩, fun b off hb => h.mono b off hb, h.news, h.fresh, h.calm, h.pm.trans hp⟩
  intro id b hb
  obtain ⟨l, hl, hok⟩ := h.mem.blk id b hb
  refine ⟨l, hl, ?_⟩
  cases b with
  | own sz rows =>
    rcases hok with h1 | ⟨b, h1, cs, e, fr, h2, h3, h4, h5⟩
    · exact .inl h1
    · refine .inr ⟨b, h1, cs, e, fr, h2, h3, h4, fun i row hr => ⟨(h5 i row hr).1, fun j t ht => ?_⟩⟩
      obtain ⟨v, hv, hvr⟩ := (h5 i row hr).2 j t ht
      exact ⟨v, hv, hvr.mono hx hp⟩
  | tok sz n => exact hok
  | iter s pos => exact hok

theorem evenB_departs {l : List Oper} (h : evenB l = true) : ∀ o ∈ l, ∀ e ∈ o.after, Region.binds .any e = true := by
  induction l with
  | nil => intro o ho; cases ho
  | cons p r ih =>
    intro o ho e he
    simp only [evenB] at h
    cases h1 : p.after.toList.all (Region.binds .any) with
    | false => simp [h1] at h
    | true =>
      simp only [h1, cond_true] at h
      rcases List.mem_cons.1 ho with rfl | ho
      · exact List.all_eq_true.1 h1 e (by simpa using he)
      · exact ih h o ho e he
theorem mixB_schedule (h : mixB P ops.toList = true) (t : Nat) : Region.schedule (P.follows .mixedOrders) ops t = Region.linearise .any ops t := by
  unfold mixB at h
  unfold Region.schedule
  cases hev : evenB ops.toList with
  | true =>
    have : Region.departs ops = false := by
      unfold Region.departs
      cases hd : ops.any (·.after.any fun e => !Region.binds .any e) with
      | false => rfl
      | true =>
        obtain ⟨o, ho, h2⟩ := Array.any_eq_true'.1 hd
        obtain ⟨e, he, h3⟩ := Array.any_eq_true'.1 h2
        rw [evenB_departs hev o (by simpa using ho) e he] at h3
        cases h3
    simp [this]
  | false =>
    simp only [hev, cond_false] at h
    simp [h]

/-- A region that draws. -/
theorem drawn_ok {id : Nat} {t : List (Nat × T)} {m : Mem} {X : Xs} {pl : Pl} {a : Act} {w : World} {K : List (Nat × T) → Mem → Prop} {Q : Exit → Act → World → Prop}
    (hE : edgesB 0 ops.toList = true) (hmix : mixB P ops.toList = true) (h : opsD P ops n rl x ops.toList 0 t m [] K) (hs : St X0 P0 W w0 t m n x X pl a w)
    (hfin : ∀ t m X pl a w, K t m → St X0 P0 W w0 t m n (x + ops.size) X pl a w → Q .normal a w) : (Code.region id ops true).wp P Q a w := by
  obtain ⟨es, tE, mE, htr, hKE⟩ := opsD_trace _ _ _ _ _ h
  obtain ⟨hlen, hget⟩ := trace_get htr
  obtain ⟨ft, fm⟩ := trace_first htr
  have ht : Told P ops n rl x es tE mE := fun i o ho => hget i o (by rw [Array.getElem?_toList]; exact ho)
  have hlen' : es.length = ops.size := by simpa using hlen
  refine wp_region_draw fun τ => ?_
  rw [mixB_schedule hmix τ]
  refine wpAny_sound ops.size τ _ a _ ?_
  refine any_walk hlen' ht hE (fun X pl a w hst => hfin tE mE X pl a w hKE hst) ops.size _ a _ (by simp) (openN_none fun _ _ => rfl) ?_
  have h0 : ∀ j, (Array.replicate ops.size false).getD j false = false := by
    intro j
    rw [Array.getD_eq_getD_getElem?, Array.getElem?_replicate]
    split <;> rfl
  have hl0 : ∀ {α : Type} (wr : Nat → List Nat) (g : Nat → Nat → α) (k : Nat) (n : Nat), lastW wr g (fun j => (Array.replicate ops.size false).getD j false) n k = g 0 k := by
    intro α wr g k n
    induction n with
    | zero => rfl
    | succ n ih =>
      rw [← ih]
      simp only [lastW]
      rw [if_neg (fun e => by rw [h0] at e; cases e.1)]
  refine ⟨fun i o ho hL => absurd ((h0 i).symm.trans hL) Bool.false_ne_true, t, m, X, pl, ?_, ?_, ?_⟩
  · exact StG.drawn ⟨hs.env, hs.mem, hs.size, fun id hid => hs.next id hid.1, hs.ext, hs.mono, hs.news, hs.fresh, hs.calm, hs.pm⟩
  · intro k; rw [hl0, ft]
  · intro k; rw [hl0, fm]
end
end Go.AW
