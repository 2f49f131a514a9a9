/- Regions that draw, on: every order comes to the text's end. -/
import Derived.Test.YtciboampiaainaaDoorAw19
set_option linter.unusedVariables false
set_option linter.unusedSimpArgs false
namespace Go.AW
open Go

theorem memB_iff {l : List Nat} {i : Nat} : memB l i = true ↔ i ∈ l := by
  induction l with
  | nil => simp [memB]
  | cons k r ih =>
    simp only [memB, List.mem_cons]
    cases h : Nat.beq k i with
    | true => simp [Nat.eq_of_beq_eq_true h]
    | false =>
      have : ¬ i = k := fun e => by subst e; simp at h
      simp [ih, this]
theorem disjB_not {a b : List Nat} (h : disjB a b = true) {k : Nat} (ha : k ∈ a) (hb : k ∈ b) : False := by
  induction a with
  | nil => cases ha
  | cons i r ih =>
    simp only [disjB] at h
    cases e : memB b i with
    | true => simp [e] at h
    | false =>
      simp only [e, cond_false] at h
      rcases List.mem_cons.1 ha with rfl | ha
      · rw [memB_iff.2 hb] at e; cases e
      · exact ih h ha

/-- Two operations that have nothing in common. -/
structure Apart (r q : Rec) : Prop where
  wf : ∀ k, k ∈ r.wr → k ∈ q.fp → False
  fw : ∀ k, k ∈ q.wr → k ∈ r.fp → False
  ww : ∀ k, k ∈ q.wr → k ∈ r.wr → False
  dl : ∀ k, k ∈ r.ds → k ∈ q.lk → False
  ld : ∀ k, k ∈ q.ds → k ∈ r.lk → False
  dd : ∀ k, k ∈ q.ds → k ∈ r.ds → False

theorem okRec_mem {rs : List Rec} {q : Rec} (h : okRec rs q = true) {r : Rec} (hr : r ∈ rs) : Nat.testBit q.mask r.i = true ∨ Apart r q := by
  induction rs with
  | nil => cases hr
  | cons a rs ih =>
    simp only [okRec] at h
    cases e : (Nat.testBit q.mask a.i || (disjB a.wr q.fp && disjB q.wr a.fp && disjB q.wr a.wr && disjB a.ds q.lk && disjB q.ds a.lk && disjB q.ds a.ds)) with
    | false => simp [e] at h
    | true =>
      simp only [e, cond_true] at h
      rcases List.mem_cons.1 hr with rfl | hr
      · simp only [Bool.or_eq_true, Bool.and_eq_true] at e
        rcases e with e | ⟨⟨⟨⟨⟨e1, e2⟩, e3⟩, e4⟩, e5⟩, e6⟩
        · exact .inl e
        · exact .inr ⟨fun k => disjB_not e1, fun k => disjB_not e2, fun k => disjB_not e3, fun k => disjB_not e4, fun k => disjB_not e5, fun k => disjB_not e6⟩
      · exact ih h hr

theorem maskOf_bit {rs : List Rec} {j k : Nat} (h : Nat.testBit (maskOf rs j) k = true) : ∃ r ∈ rs, r.i = j ∧ Nat.testBit r.mask k = true := by
  induction rs with
  | nil => simp [maskOf] at h
  | cons r rs ih =>
    simp only [maskOf] at h
    cases e : Nat.beq r.i j with
    | true => simp only [e, cond_true] at h; exact ⟨r, by simp, Nat.eq_of_beq_eq_true e, h⟩
    | false =>
      simp only [e, cond_false] at h
      obtain ⟨q, hq, h1, h2⟩ := ih h
      exact ⟨q, by simp [hq], h1, h2⟩

theorem maskE_bit {rs : List Rec} {k : Nat} : ∀ {es : List Edge} {a : Nat}, Nat.testBit (maskE rs es a) k = true →
    Nat.testBit a k = true ∨ ∃ e ∈ es, Region.binds .any e = true ∧ (k = e.on ∨ Nat.testBit (maskOf rs e.on) k = true)
  | [], a, h => .inl h
  | e :: r, a, h => by
    simp only [maskE] at h
    cases hb : Region.binds .any e with
    | true =>
      simp only [hb, cond_true] at h
      rcases maskE_bit h with h | ⟨e', he, h1, h2⟩
      · simp only [Nat.testBit_or, Bool.or_eq_true, Nat.testBit_two_pow] at h
        rcases h with (h | h) | h
        · exact .inl h
        · exact .inr ⟨e, by simp, hb, .inl (by have h' := h; simp at h'; exact h'.symm)⟩
        · exact .inr ⟨e, by simp, hb, .inr h⟩
      · exact .inr ⟨e', by simp [he], h1, h2⟩
    | false =>
      simp only [hb, cond_false] at h
      rcases maskE_bit h with h | ⟨e', he, h1, h2⟩
      · exact .inl h
      · exact .inr ⟨e', by simp [he], h1, h2⟩

theorem recsOf_mem {es : List Ent} {i : Nat} {r : Rec} : r ∈ recsOf es [] i ↔ ∃ j e, j < i ∧ es[j]? = some e ∧ e.r = r := by
  simp only [recsOf, List.append_nil, List.mem_reverse, List.mem_map]
  constructor
  · rintro ⟨e, he, rfl⟩
    obtain ⟨j, hj⟩ := List.getElem?_of_mem he
    rw [List.getElem?_take] at hj
    split at hj
    · rename_i h; exact ⟨j, e, h, hj, rfl⟩
    · cases hj
  · rintro ⟨j, e, hj, he, rfl⟩
    refine ⟨e, ?_, rfl⟩
    refine List.mem_of_getElem? (i := j) ?_
    rw [List.getElem?_take, if_pos hj, he]

section
variable {P : Program} {ops : Array Oper} {n : Nat} {rl : List Nat} {x : Nat} {es : List Ent} {tE : List (Nat × T)} {mE : Mem}

/-- Every operation of the region is told of. -/
def Told (P : Program) (ops : Array Oper) (n : Nat) (rl : List Nat) (x : Nat) (es : List Ent) (tE : List (Nat × T)) (mE : Mem) : Prop :=
  ∀ (i : Nat) (o : Oper), ops[i]? = some o → ∃ e, es[i]? = some e ∧ EntOk P ops n rl x es [] tE mE 0 i o e

/-- A set of operations with all that come before them. -/
def Closed (ops : Array Oper) (L : Nat → Bool) : Prop := ∀ i o, ops[i]? = some o → L i = true → ∀ e ∈ o.after, Region.binds .any e = true → L e.on = true

theorem mask_in (ht : Told P ops n rl x es tE mE) {L : Nat → Bool} (hc : Closed ops L) : ∀ (i : Nat) (o : Oper) (e : Ent), ops[i]? = some o → es[i]? = some e →
    (∀ ed ∈ o.after, Region.binds .any ed = true → L ed.on = true) → ∀ k, Nat.testBit e.r.mask k = true → L k = true := by
  intro i
  induction i using Nat.strongRecOn with
  | _ i ih =>
    intro o e ho he hL k hk
    obtain ⟨e', he', q⟩ := ht i o ho
    obtain rfl : e' = e := by rw [he] at he'; exact (Option.some.inj he').symm
    rw [q.mask] at hk
    rcases maskE_bit hk with h | ⟨ed, hed, hb, h⟩
    · simp at h
    · have hLe := hL ed (by simpa using hed) hb
      rcases h with rfl | h
      · exact hLe
      · obtain ⟨r, hr, h1, h2⟩ := maskOf_bit h
        obtain ⟨j, ej, hj, hej, rfl⟩ := recsOf_mem.1 hr
        have hlt : j < ops.size := by
          have := (Array.getElem?_eq_some_iff.1 ho).1
          omega
        obtain ⟨ej', hej', qj⟩ := ht j _ (Array.getElem?_eq_getElem hlt)
        obtain rfl : ej' = ej := by rw [hej] at hej'; exact (Option.some.inj hej').symm
        have hij : j = ed.on := by rw [← h1, qj.num]; omega
        subst hij
        exact ih _ hj _ _ (Array.getElem?_eq_getElem hlt) hej (hc _ _ (Array.getElem?_eq_getElem hlt) hLe) k h2

def wrI (es : List Ent) (i : Nat) : List Nat := match es[i]? with | some e => e.r.wr | none => []
def dsI (es : List Ent) (i : Nat) : List Nat := match es[i]? with | some e => e.r.ds | none => []

theorem wrI_some {i : Nat} {e : Ent} (h : es[i]? = some e) : wrI es i = e.r.wr := by simp [wrI, h]
theorem dsI_some {i : Nat} {e : Ent} (h : es[i]? = some e) : dsI es i = e.r.ds := by simp [dsI, h]
theorem tAt_some {i : Nat} {e : Ent} (h : es[i]? = some e) : tAt es tE i = e.t := by simp [tAt, h]

theorem mAt_some {i : Nat} {e : Ent} (h : es[i]? = some e) : mAt es mE i = e.m := by simp [mAt, h]

theorem look_putO (t : List (Nat × T)) (d : Option Nat) (v : T) (k : Nat) : look (putO t d v) k = if k ∈ d.toList then v else look t k := by
  cases d with
  | none => simp [putO]
  | some i => simp [putO, look_putT]

/-- What lies where in the end, whatever the order. -/
theorem stays (hlen : es.length = ops.size) (ht : Told P ops n rl x es tE mE) :
    (∀ i k, k ∉ dsI es i → look (tAt es tE (i + 1)) k = look (tAt es tE i) k) ∧ (∀ i k, k ∉ wrI es i → (mAt es mE (i + 1)).get k = (mAt es mE i).get k) := by
  constructor
  · intro i k hk
    cases ho : ops[i]? with
    | none =>
      have hge : ops.size ≤ i := by
        rcases Nat.lt_or_ge i ops.size with h | h
        · simp [h] at ho
        · exact h
      have h1 : es[i]? = none := List.getElem?_eq_none (by omega)
      have h2 : es[i + 1]? = none := List.getElem?_eq_none (by omega)
      simp [tAt, h1, h2]
    | some o =>
      obtain ⟨e, he, q⟩ := ht i o ho
      rw [q.tnext, tAt_some he, look_putO]
      rw [dsI_some he, q.ds] at hk
      rw [if_neg hk]
  · intro i k hk
    cases ho : ops[i]? with
    | none =>
      have hge : ops.size ≤ i := by
        rcases Nat.lt_or_ge i ops.size with h | h
        · simp [h] at ho
        · exact h
      have h1 : es[i]? = none := List.getElem?_eq_none (by omega)
      have h2 : es[i + 1]? = none := List.getElem?_eq_none (by omega)
      simp [mAt, h1, h2]
    | some o =>
      obtain ⟨e, he, q⟩ := ht i o ho
      rw [q.mnext, mAt_some he]
      rw [wrI_some he] at hk
      cases hg : e.go with
      | true =>
        obtain ⟨_, h2, h3⟩ := q.yes hg
        exact h3.1 k (by rw [← h2]; exact hk)
      | false => rw [(q.no hg).2.2.2]

end
end Go.AW
