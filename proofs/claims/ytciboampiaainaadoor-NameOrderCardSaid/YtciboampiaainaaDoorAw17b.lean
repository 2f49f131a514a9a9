/- Soundness: calls that change memory. -/
import Derived.Test.YtciboampiaainaaDoorAw17
set_option linter.unusedVariables false
set_option linter.unusedSimpArgs false
namespace Go.AW
open Go

section
variable {P : Program} {X X' : Xs} {W : Nat → Prop} {pl pl' : Pl} {w w' : World} {m : Mem}

/-- Placements that agree, but for a renaming. -/
def Ren (σ : List (Nat × Nat)) (pl pl' : Pl) : Prop := ∀ i, asHas σ i = true → pl' (asGet σ i) = pl i

theorem tok_ren {i j : Nat} (h : pl' j = pl i) {sz : Nat} {rows : List (List T)} {v : Value} : TokOk pl' sz rows v j ↔ TokOk pl sz rows v i := by
  unfold TokOk
  rw [h]

theorem ren0_rel {σ : List (Nat × Nat)} (hR : Ren σ pl pl') {t : T} (hd : dom0 σ t = true) {v : Value} : VRel X pl' w (ren0 σ t) v ↔ VRel X pl w t v := by
  have pq : ∀ {i : Nat}, asHas σ i = true → ∀ l, pl' (asGet σ i) = some l ↔ pl i = some l := fun {i} h l => by rw [hR i h]
  cases t with
  | dead => exact ⟨fun _ => .dead _, fun _ => .dead _⟩
  | lit u => constructor <;> (intro h; cases h; exact .lit _)
  | sl tok sz rows =>
    cases tok with
    | none => constructor <;> (intro h; cases h with | sl _ _ _ _ hb _ => exact .sl _ _ _ _ hb (by simp))
    | some i =>
      have e := hR i hd
      constructor
      · intro h
        cases h with
        | sl _ _ _ _ hb ht =>
          refine .sl _ _ _ _ (by cases hb with | sl _ _ _ a cap cs h1 h2 h3 h4 => exact .sl _ _ _ a cap cs h1 h2 h3 h4) ?_
          intro id e2
          obtain rfl := Option.some.inj e2
          exact (tok_ren e).1 (ht _ rfl)
      · intro h
        cases h with
        | sl _ _ _ _ hb ht =>
          refine .sl _ _ _ _ (by cases hb with | sl _ _ _ a cap cs h1 h2 h3 h4 => exact .sl _ _ _ a cap cs h1 h2 h3 h4) ?_
          intro id e2
          obtain rfl := Option.some.inj e2
          exact (tok_ren e).2 (ht _ rfl)
  | agg => simp [dom0] at hd
  | tup => simp [dom0] at hd
  | clo => simp [dom0] at hd
  | ifc => constructor <;> (intro h; cases h with | ifc _ _ _ hb => exact .ifc _ _ _ hb)
  | ptr i r o =>
    constructor
    · intro h
      cases h with
      | ptr _ _ _ b sz hp => exact .ptr _ _ _ b sz (hp.imp (pq hd _).1 (pq hd _).1)
    · intro h
      cases h with
      | ptr _ _ _ b sz hp => exact .ptr _ _ _ b sz (hp.imp (pq hd _).2 (pq hd _).2)
  | sref i lo len =>
    constructor
    · intro h
      generalize hu : ren0 σ (.sref i lo len) = u at h
      cases h <;> simp only [ren0, reduceCtorEq] at hu
      · rename_i hp
        injection hu with h1 h2 h3
        subst h1 h2 h3
        exact .srefn _ (hp.imp (pq hd _).1 (pq hd _).1)
      · rename_i b sz cap hp hl hr
        injection hu with h1 h2 h3
        subst h1 h2 h3
        exact .sref _ _ _ b sz cap (hp.imp (pq hd _).1 (pq hd _).1) hl fun e => hr ((pq hd _).2 e)
      · rename_i b sz a hp
        injection hu with h1 h2 h3
        subst h1 h2 h3
        exact .srefz _ _ b sz a (hp.imp (pq hd _).1 (pq hd _).1)
    · intro h
      cases h with
      | srefn _ hp => exact .srefn _ (hp.imp (pq hd _).2 (pq hd _).2)
      | sref _ _ _ b sz cap hp hl hr => exact .sref _ _ _ b sz cap (hp.imp (pq hd _).2 (pq hd _).2) hl fun e => hr ((pq hd _).1 e)
      | srefz _ _ b sz a hp => exact .srefz _ _ b sz a (hp.imp (pq hd _).2 (pq hd _).2)
  | vp => constructor <;> (intro h; cases h with | vp _ _ b o cs hb => exact .vp _ _ b o cs hb)
  | itr i =>
    constructor
    · intro h; cases h with | itr _ b hp => exact .itr _ b ((pq hd _).1 hp)
    · intro h; cases h with | itr _ b hp => exact .itr _ b ((pq hd _).2 hp)
  | mref i =>
    constructor
    · intro h; cases h with | mref _ b hp => exact .mref _ b ((pq hd _).1 hp)
    · intro h; cases h with | mref _ b hp => exact .mref _ b ((pq hd _).2 hp)

theorem renL_rel {f : T → T} {d : T → Bool} (hf : ∀ t v, d t = true → (VRel X pl' w (f t) v ↔ VRel X pl w t v)) {ts : List T} (hd : ts.all d = true) {vs : List Value} :
    (∀ (i : Nat) (t : T) (v : Value), (ts.map f)[i]? = some t → vs[i]? = some v → VRel X pl' w t v) ↔ (∀ (i : Nat) (t : T) (v : Value), ts[i]? = some t → vs[i]? = some v → VRel X pl w t v) := by
  constructor
  · intro h i t v ht hv
    exact (hf t v (List.all_eq_true.1 hd t (List.mem_of_getElem? ht))).1 (h i (f t) v (by simp [ht]) hv)
  · intro h i t v ht hv
    simp only [List.getElem?_map] at ht
    cases e : ts[i]? with
    | none => simp [e] at ht
    | some u =>
      simp [e] at ht
      subst ht
      exact (hf u v (List.all_eq_true.1 hd u (List.mem_of_getElem? e))).2 (h i u v e hv)

theorem renA_rel {σ : List (Nat × Nat)} (hR : Ren σ pl pl') {t : T} (hd : domA σ t = true) {v : Value} : VRel X pl' w (renA σ t) v ↔ VRel X pl w t v := by
  by_cases ha : ∃ cs, t = .agg cs
  · obtain ⟨cs, rfl⟩ := ha
    constructor
    · intro h
      generalize hu : renA σ (.agg cs) = u at h
      cases h <;> simp only [renA, reduceCtorEq] at hu
      rename_i ts vs hl hh
      injection hu with hu
      subst hu
      exact .agg _ vs (by simpa using hl) ((renL_rel (f := ren0 σ) (d := dom0 σ) (fun t v h => ren0_rel hR h) hd).1 hh)
    · intro h
      cases h with
      | agg _ vs hl hh => exact .agg _ vs (by simpa using hl) ((renL_rel (f := ren0 σ) (d := dom0 σ) (fun t v h => ren0_rel hR h) hd).2 hh)
  · have e : renA σ t = ren0 σ t := by cases t <;> first | rfl | exact absurd ⟨_, rfl⟩ ha
    have e2 : dom0 σ t = true := by cases t <;> first | exact hd | exact absurd ⟨_, rfl⟩ ha
    rw [e]; exact ren0_rel hR e2

theorem renT_rel {σ : List (Nat × Nat)} (hR : Ren σ pl pl') {t : T} (hd : domT σ t = true) {v : Value} : VRel X pl' w (renT σ t) v ↔ VRel X pl w t v := by
  by_cases ha : ∃ cs, t = .tup cs
  · obtain ⟨cs, rfl⟩ := ha
    constructor
    · intro h
      generalize hu : renT σ (.tup cs) = u at h
      cases h <;> simp only [renT, reduceCtorEq] at hu
      rename_i ts vs hl hh
      injection hu with hu
      subst hu
      exact .tup _ vs (by simpa using hl) ((renL_rel (f := renA σ) (d := domA σ) (fun t v h => renA_rel hR h) hd).1 hh)
    · intro h
      cases h with
      | tup _ vs hl hh => exact .tup _ vs (by simpa using hl) ((renL_rel (f := renA σ) (d := domA σ) (fun t v h => renA_rel hR h) hd).2 hh)
  · by_cases hc : ∃ f cs, t = .clo f cs
    · obtain ⟨f, cs, rfl⟩ := hc
      constructor
      · intro h
        generalize hu : renT σ (.clo f cs) = u at h
        cases h <;> simp only [renT, reduceCtorEq] at hu
        rename_i f2 ts vs hl hh
        injection hu with h1 h2
        subst h1 h2
        exact .clo _ _ vs (by simpa using hl) ((renL_rel (f := ren0 σ) (d := dom0 σ) (fun t v h => ren0_rel hR h) hd).1 hh)
      · intro h
        cases h with
        | clo _ _ vs hl hh => exact .clo _ _ vs (by simpa using hl) ((renL_rel (f := ren0 σ) (d := dom0 σ) (fun t v h => ren0_rel hR h) hd).2 hh)
    · have e : renT σ t = renA σ t := by cases t <;> first | rfl | exact absurd ⟨_, rfl⟩ ha | exact absurd ⟨_, _, rfl⟩ hc
      have e2 : domA σ t = true := by cases t <;> first | exact hd | exact absurd ⟨_, rfl⟩ ha | exact absurd ⟨_, _, rfl⟩ hc
      rw [e]; exact renA_rel hR e2

theorem renB_rel {σ : List (Nat × Nat)} (hR : Ren σ pl pl') {l : Loc} {b : Blk} (hd : domB σ b) : BlkOk X pl' w l (renB σ b) ↔ BlkOk X pl w l b := by
  cases b with
  | own sz rows =>
    constructor
    · rintro (⟨h1, h2⟩ | ⟨b, h1, cs, e, fr, h2, h3, h4, h5⟩)
      · exact .inl ⟨h1, by simpa using h2⟩
      · refine .inr ⟨b, h1, cs, e, fr, h2, h3, by simpa using h4, fun i row hr => ?_⟩
        obtain ⟨g1, g2⟩ := h5 i (row.map (ren0 σ)) (by simp [hr])
        refine ⟨by simpa using g1, fun j t ht => ?_⟩
        obtain ⟨v, hv, hvr⟩ := g2 j (ren0 σ t) (by simp [ht])
        exact ⟨v, hv, (ren0_rel hR (hd row (List.mem_of_getElem? hr) t (List.mem_of_getElem? ht))).1 hvr⟩
    · rintro (⟨h1, h2⟩ | ⟨b, h1, cs, e, fr, h2, h3, h4, h5⟩)
      · exact .inl ⟨h1, by simpa using h2⟩
      · refine .inr ⟨b, h1, cs, e, fr, h2, h3, by simpa using h4, fun i row hr => ?_⟩
        simp only [List.getElem?_map] at hr
        cases e2 : rows[i]? with
        | none => simp [e2] at hr
        | some row0 =>
          simp [e2] at hr
          subst hr
          obtain ⟨g1, g2⟩ := h5 i row0 e2
          refine ⟨by simpa using g1, fun j t ht => ?_⟩
          simp only [List.getElem?_map] at ht
          cases e3 : row0[j]? with
          | none => simp [e3] at ht
          | some t0 =>
            simp [e3] at ht
            subst ht
            obtain ⟨v, hv, hvr⟩ := g2 j t0 e3
            exact ⟨v, hv, (ren0_rel hR (hd row0 (List.mem_of_getElem? e2) t0 (List.mem_of_getElem? e3))).2 hvr⟩
  | tok => exact Iff.rfl
  | iter => exact Iff.rfl

/-- Removing and putting many. -/
def Mem.delAll : List Nat → Mem → Mem
  | [], m => m
  | j :: r, m => Mem.delAll r (m.del j)
def Mem.putAll : Mem → Mem → Mem
  | [], m => m
  | (i, b) :: r, m => (Mem.putAll r m).put i b
theorem delL_eq : ∀ (js : List Nat) (m : Mem) (K : Mem → Prop), delL js m K = K (Mem.delAll js m)
  | [], m, K => rfl
  | j :: r, m, K => by simp only [delL, delF_eq, Mem.delAll]; exact delL_eq r _ K
theorem putL_eq : ∀ (mR m : Mem) (K : Mem → Prop), putL mR m K = K (Mem.putAll mR m)
  | [], m, K => rfl
  | (i, b) :: r, m, K => by simp only [putL, Mem.putAll, putL_eq r, memF_eq]
theorem get_delAll : ∀ (js : List Nat) (m : Mem) (i : Nat), (Mem.delAll js m).get i = if i ∈ js then none else m.get i
  | [], m, i => by simp [Mem.delAll]
  | j :: r, m, i => by
    rw [Mem.delAll, get_delAll r]
    by_cases h : i ∈ r
    · simp [h]
    · by_cases e : i = j
      · subst e; simp [h, Mem.get_del_same]
      · simp [h, e, Mem.get_del_other _ _ _ (Ne.symm e)]
theorem get_putAll : ∀ (mR m : Mem) (i : Nat), (Mem.putAll mR m).get i = match mR.get i with | some b => some b | none => m.get i
  | [], m, i => rfl
  | (j, b) :: r, m, i => by
    rw [Mem.putAll]
    by_cases e : j = i
    · subst e; rw [Mem.get_put_same]; simp [Mem.get]
    · rw [Mem.get_put_other _ _ _ _ e, get_putAll r]
      simp [Mem.get, beq_ne e]

theorem memB_mem {l : List Nat} {i : Nat} : memB l i = true ↔ i ∈ l := by
  induction l with
  | nil => simp [memB]
  | cons k r ih =>
    simp only [memB, List.mem_cons]
    cases h : Nat.beq k i with
    | true => simp [Nat.eq_of_beq_eq_true h]
    | false =>
      have : ¬ i = k := fun e => by subst e; simp at h
      simp [ih, this]
theorem nodupB_nodup {l : List Nat} (h : nodupB l = true) : l.Nodup := by
  induction l with
  | nil => exact .nil
  | cons j r ih =>
    simp only [nodupB, Bool.and_eq_true, Bool.not_eq_true'] at h
    refine List.nodup_cons.2 ⟨fun hm => ?_, ih h.2⟩
    rw [memB_mem.2 hm] at h; cases h.1
theorem asIn_has : ∀ (js : List Nat) (n i : Nat), asHas (asIn js n) i = true → n ≤ i ∧ js[i - n]? = some (asGet (asIn js n) i)
  | [], n, i, h => by simp [asIn, asHas] at h
  | j :: r, n, i, h => by
    simp only [asIn, asHas, asGet] at h ⊢
    cases e : Nat.beq n i with
    | true =>
      obtain rfl := Nat.eq_of_beq_eq_true e
      simp
    | false =>
      simp only [e, cond_false] at h ⊢
      obtain ⟨h1, h2⟩ := asIn_has r (n + 1) i h
      refine ⟨by omega, ?_⟩
      rw [show i - n = (i - (n + 1)) + 1 by omega, List.getElem?_cons_succ]
      exact h2
theorem asIn_get : ∀ (js : List Nat) (n k j : Nat), js[k]? = some j → asHas (asIn js n) (n + k) = true ∧ asGet (asIn js n) (n + k) = j
  | [], n, k, j, h => by simp at h
  | x :: r, n, k, j, h => by
    simp only [asIn, asHas, asGet]
    cases k with
    | zero => simp at h; subst h; simp
    | succ k =>
      have hne : n ≠ n + (k + 1) := by omega
      simp only [beq_ne hne, cond_false]
      rw [show n + (k + 1) = n + 1 + k by omega]
      exact asIn_get r (n + 1) k j (by simpa using h)

theorem memIn_get {σ : List (Nat × Nat)} : ∀ {m0 : Mem}, memIn σ m m0 → ∀ {i : Nat} {b : Blk}, m0.get i = some b → asHas σ i = true ∧ m.get (asGet σ i) = some (renB σ b) ∧ domB σ b
  | [], _, i, b, h => by simp [Mem.get] at h
  | (k, c) :: r, hm, i, b, h => by
    simp only [Mem.get] at h
    cases e : Nat.beq k i with
    | true =>
      obtain rfl := Nat.eq_of_beq_eq_true e
      simp only [e, cond_true, Option.some.injEq] at h
      subst h
      exact hm.1
    | false => simp only [e, cond_false] at h; exact memIn_get hm.2 h

theorem memOut_get {σ : List (Nat × Nat)} : ∀ {m1 mR : Mem}, memOut σ m1 mR → ∀ {j : Nat} {c : Blk}, mR.get j = some c → ∃ i b, asHas σ i = true ∧ asGet σ i = j ∧ m1.get i = some b ∧ renB σ b = c ∧ domB σ b
  | [], [], _, j, c, h => by simp [Mem.get] at h
  | (i0, b0) :: r, (j0, c0) :: s, hm, j, c, h => by
    obtain ⟨⟨h1, h2, h3, h4⟩, hr⟩ := hm
    simp only [Mem.get] at h
    cases e : Nat.beq j0 j with
    | true =>
      obtain rfl := Nat.eq_of_beq_eq_true e
      simp only [e, cond_true, Option.some.injEq] at h
      subst h
      exact ⟨i0, b0, h1, h2, by simp [Mem.get], h3, h4⟩
    | false =>
      simp only [e, cond_false] at h
      obtain ⟨i, b, g1, g2, g3, g4, g5⟩ := memOut_get hr h
      refine ⟨i, b, g1, g2, ?_, g4, g5⟩
      have : i0 ≠ i := fun e2 => by subst e2; rw [h2] at g2; subst g2; simp at e
      simp [Mem.get, beq_ne this, g3]
  | [], _ :: _, hm, _, _, _ => hm.elim
  | _ :: _, [], hm, _, _, _ => hm.elim

theorem hasL_get {js : List Nat} (h : hasL m js) : ∀ j ∈ js, (m.get j).isSome = true := by
  induction js with
  | nil => simp
  | cons k r ih =>
    intro j hj
    rcases List.mem_cons.1 hj with rfl | hj
    · exact h.1
    · exact ih h.2 j hj

/-- Where an id of the caller's comes from. -/
def asBack : List Nat → Nat → Nat → Option Nat
  | [], _, _ => none
  | j :: r, n, i => if j = i then some n else asBack r (n + 1) i
theorem asBack_some : ∀ {js : List Nat} {n i k : Nat}, asBack js n i = some k → n ≤ k ∧ js[k - n]? = some i
  | [], n, i, k, h => by simp [asBack] at h
  | j :: r, n, i, k, h => by
    simp only [asBack] at h
    split at h
    · rename_i e; cases h; subst e; simp
    · obtain ⟨h1, h2⟩ := asBack_some h
      refine ⟨by omega, ?_⟩
      rw [show k - n = (k - (n + 1)) + 1 by omega, List.getElem?_cons_succ]
      exact h2
theorem asBack_none : ∀ {js : List Nat} {n i : Nat}, asBack js n i = none → i ∉ js
  | [], n, i, h => by simp
  | j :: r, n, i, h => by
    simp only [asBack] at h
    split at h
    · cases h
    · rename_i e
      simp only [List.mem_cons, not_or]
      exact ⟨fun e2 => e e2.symm, asBack_none h⟩
theorem asBack_get : ∀ {js : List Nat} (n : Nat), js.Nodup → ∀ {k i : Nat}, js[k]? = some i → asBack js n i = some (n + k)
  | [], n, _, k, i, h => by simp at h
  | j :: r, n, hn, k, i, h => by
    simp only [asBack]
    cases k with
    | zero => simp at h; simp [h]
    | succ k =>
      have h' : r[k]? = some i := by simpa using h
      have hne : j ≠ i := fun e => by subst e; exact (List.nodup_cons.1 hn).1 (List.mem_of_getElem? h')
      rw [if_neg hne, asBack_get (n + 1) (List.nodup_cons.1 hn).2 h']
      congr 1; omega

theorem free_of_ne {l : Loc} {b off : Nat} (h : ∀ b', l.blk = some b' → b' ≠ b) : l.free b off := by
  cases l <;> simp only [Loc.free, Loc.blk] at *
  · exact fun e => h _ rfl e.symm
  · exact fun e => absurd e.symm (h _ rfl)
  · exact fun e => h _ rfl e.symm


/-- What a call that changes memory leaves its caller. -/
theorem callM_step (hm : MRel X W pl w m) {id : Nat} (hid : pl id = none) (hW : ∀ b, w.heap.size ≤ b → W b) {f : FuncId} {js : List Nat} {ts0 : List T} {m0 m1 mR : Mem} {o : T}
    (hF : FCm P f ts0 m0 js.length o m1) (hnd : nodupB js = true) (hhas : hasL m js) (hdom : ts0.all (domT (asIn js 0)) = true) (hin : memIn (asIn js 0) m m0)
    (hdo : domT (asIn (js ++ [id]) 0) o = true) (hout : memOut (asIn (js ++ [id]) 0) m1 mR) {args : List Value} (hlen : ts0.length = args.length)
    (hargs : ∀ (i : Nat) (t : T) (v : Value), (ts0.map (renT (asIn js 0)))[i]? = some t → args[i]? = some v → VRel X pl w t v) :
    Calls P f args.toArray w fun e w' => ∃ v, e = .returned v ∧ StepOk X W pl w (some id) (Mem.putAll mR (Mem.delAll js m)) (renT (asIn (js ++ [id]) 0) o) v w' := by
  have nd := nodupB_nodup hnd
  have jsome : ∀ j ∈ js, ∃ l, pl j = some l := fun j hj => by
    have := hasL_get hhas j hj
    cases e : m.get j with
    | none => rw [e] at this; cases this
    | some b => obtain ⟨l, hl, _⟩ := hm.blk j b e; exact ⟨l, hl⟩
  have idn : id ∉ js := fun h => by obtain ⟨l, hl⟩ := jsome id h; rw [hid] at hl; cases hl
  have nd2 : (js ++ [id]).Nodup := by
    rw [List.nodup_append]
    exact ⟨nd, by simp, fun a ha b hb => by simp at hb; subst hb; exact fun e => idn (e ▸ ha)⟩
  let pl1 : Pl := fun i => if asHas (asIn js 0) i = true then pl (asGet (asIn js 0) i) else none
  have hR : Ren (asIn js 0) pl1 pl := fun i hi => by simp only [pl1, if_pos hi]
  have p1 : ∀ i l, pl1 i = some l → ∃ j, js[i]? = some j ∧ pl j = some l := by
    intro i l hl
    simp only [pl1] at hl
    split at hl
    · rename_i hi
      obtain ⟨_, h2⟩ := asIn_has js 0 i hi
      exact ⟨_, by simpa using h2, hl⟩
    · cases hl
  have p1' : ∀ i j : Nat, js[i]? = some j → pl1 i = pl j := by
    intro i j hj
    obtain ⟨h1, h2⟩ := asIn_get js 0 i j hj
    rw [Nat.zero_add] at h1 h2
    simp only [pl1, if_pos h1, h2]
  let W1 : Nat → Prop := fun b => (∃ i l, pl1 i = some l ∧ l.blk = some b) ∨ w.heap.size ≤ b
  have W1W : ∀ b, W1 b → W b := by
    rintro b (⟨i, l, hl, hb⟩ | h)
    · obtain ⟨j, _, hj⟩ := p1 i l hl
      exact (hm.placed j l b hj hb).1
    · exact hW b h
  have inj : ∀ i k j : Nat, js[i]? = some j → js[k]? = some j → i = k := by
    intro i k j h1 h2
    have := asBack_get 0 nd h1
    rw [asBack_get 0 nd h2] at this
    have := Option.some.inj this
    omega
  have hm1 : MRel X W1 pl1 w m0 := by
    refine ⟨?_, ?_, ?_, ?_, hm.glob⟩
    · intro i b hb
      obtain ⟨h1, h2, h3⟩ := memIn_get hin hb
      obtain ⟨l, hl, hk⟩ := hm.blk _ _ h2
      exact ⟨l, by simp only [pl1, if_pos h1]; exact hl, (renB_rel hR h3).1 hk⟩
    · intro i l b hl hb
      obtain ⟨j, _, hj⟩ := p1 i l hl
      exact ⟨.inl ⟨i, l, hl, hb⟩, (hm.placed j l b hj hb).2⟩
    · intro i k l l' b hl hl' hb hb'
      obtain ⟨j, hj1, hj⟩ := p1 i l hl
      obtain ⟨j', hj1', hj'⟩ := p1 k l' hl'
      have := hm.apart j j' l l' b hj hj' hb hb'
      subst this
      exact inj i k j hj1 hj1'
    · intro b off hx
      refine ⟨(hm.xin b off hx).1, fun i l hl => ?_⟩
      obtain ⟨j, _, hj⟩ := p1 i l hl
      exact (hm.xin b off hx).2 j l hj
  have hcall := hF X W1 pl1 w args hm1 (fun b hb => .inr hb) (fun i l hl => by obtain ⟨j, hj, _⟩ := p1 i l hl; exact (List.getElem?_eq_some_iff.1 hj).1) hlen
    ((renL_rel (f := renT (asIn js 0)) (d := domT (asIn js 0)) (fun t v h => renT_rel hR h) hdom).1 hargs)
  refine hcall.mono ?_
  rintro e w' ⟨v, X', pl1', rfl, hx, hp1, he, hm', hX, hv⟩
  refine ⟨v, rfl, ?_⟩
  let pl' : Pl := fun j => match asBack (js ++ [id]) 0 j with | some i => pl1' i | none => pl j
  have hR' : Ren (asIn (js ++ [id]) 0) pl1' pl' := by
    intro i hi
    obtain ⟨_, h2⟩ := asIn_has (js ++ [id]) 0 i hi
    rw [Nat.sub_zero] at h2
    have := asBack_get 0 nd2 h2
    simp only [pl', this, Nat.zero_add]
  have back : ∀ j, j ∉ js → j ≠ id → pl' j = pl j := by
    intro j h1 h2
    simp only [pl']
    cases e : asBack (js ++ [id]) 0 j with
    | none => rfl
    | some i =>
      obtain ⟨_, h3⟩ := asBack_some e
      have := List.mem_of_getElem? h3
      simp at this
      rcases this with h | h
      · exact absurd h h1
      · exact absurd h h2
  have fwd : ∀ i j : Nat, js[i]? = some j → pl' j = pl1' i := by
    intro i j h
    have h2 : (js ++ [id])[i]? = some j := by rw [List.getElem?_append_left (List.getElem?_eq_some_iff.1 h).1]; exact h
    have := asBack_get 0 nd2 h2
    simp only [pl', this, Nat.zero_add]
  have plk : ∀ j l, pl' j = some l → (∃ i, (js ++ [id])[i]? = some j ∧ pl1' i = some l) ∨ (j ∉ js ∧ j ≠ id ∧ pl j = some l) := by
    intro j l hl
    simp only [pl'] at hl
    cases e : asBack (js ++ [id]) 0 j with
    | none =>
      rw [e] at hl
      have := asBack_none e
      simp only [List.mem_append, List.mem_singleton, not_or] at this
      exact .inr ⟨this.1, this.2, hl⟩
    | some i =>
      rw [e] at hl
      obtain ⟨_, h3⟩ := asBack_some e
      exact .inl ⟨i, by simpa using h3, hl⟩
  -- blocks of the others are left alone
  have others : ∀ j l b, j ∉ js → pl j = some l → l.blk = some b → ¬ W1 b := by
    rintro j l b hj hl hb (⟨i, l', hl', hb'⟩ | h)
    · obtain ⟨j', hj', hpj⟩ := p1 i l' hl'
      have := hm.apart j j' l l' b hl hpj hb hb'
      subst this
      exact hj (List.mem_of_getElem? hj')
    · have := (hm.placed j l b hl hb).2
      omega
  have okeep : ∀ j l b, j ∉ js → pl j = some l → l.blk = some b → w'.heap[b]? = w.heap[b]? := fun j l b hj hl hb => he.keep b (hm.placed j l b hl hb).2 (others j l b hj hl hb)
  have hp : PMono pl pl' w w' := by
    intro j l hl
    by_cases hj : j ∈ js
    · obtain ⟨i, hi⟩ := List.getElem?_of_mem hj
      obtain ⟨⟨l', hl', hle⟩, hr⟩ := hp1 i l (by rw [p1' i j hi]; exact hl)
      refine ⟨⟨l', by rw [fwd i j hi]; exact hl', hle⟩, fun b sz e e2 n hn => hr b sz e (by rw [← fwd i j hi]; exact e2) n hn⟩
    · have hne : j ≠ id := fun e => by subst e; rw [hid] at hl; cases hl
      refine ⟨⟨l, by rw [back j hj hne]; exact hl, l.le_refl⟩, ?_⟩
      rintro b sz rfl _ n hn
      exact roomy_of_heap (okeep j _ b hj hl rfl) hn
  refine ⟨X', pl', hx, hp, ?_, he.weaken fun b _ h => W1W b h, ?_, (renT_rel hR' hdo).2 hv, fun b off h => (hX b off h).imp (fun h => h) (W1W b)⟩
  · intro i hi hn
    have h1 : i ∉ js := fun h => by obtain ⟨l, hl⟩ := jsome i h; rw [hn] at hl; cases hl
    rw [back i h1 (fun e => hi (by rw [e]))]; exact hn
  refine ⟨?_, ?_, ?_, ?_, hm.glob.mono hx⟩
  · intro j b hb
    rw [get_putAll] at hb
    cases e : mR.get j with
    | some c =>
      rw [e] at hb
      obtain rfl := Option.some.inj hb
      obtain ⟨i, b0, h1, h2, h3, h4, h5⟩ := memOut_get hout e
      obtain ⟨l, hl, hk⟩ := hm'.blk i b0 h3
      refine ⟨l, by rw [← h2, hR' i h1]; exact hl, ?_⟩
      rw [← h4]
      exact (renB_rel hR' h5).2 hk
    | none =>
      rw [e] at hb
      simp only at hb
      rw [get_delAll] at hb
      split at hb
      · cases hb
      · rename_i hj
        obtain ⟨l, hl, hk⟩ := hm.blk j b hb
        have hne : j ≠ id := fun e => by subst e; rw [hid] at hl; cases hl
        exact ⟨l, by rw [back j hj hne]; exact hl, hk.mono hx hp fun b' hb' => okeep j l b' hj hl hb'⟩
  · intro j l b hl hb
    rcases plk j l hl with ⟨i, _, hi⟩ | ⟨h1, h2, hi⟩
    · obtain ⟨g1, g2⟩ := hm'.placed i l b hi hb
      exact ⟨W1W b g1, g2⟩
    · obtain ⟨g1, g2⟩ := hm.placed j l b hi hb
      exact ⟨g1, Nat.lt_of_lt_of_le g2 he.size⟩
  · intro j k l l' b hl hl' hb hb'
    rcases plk j l hl with ⟨i, hji, hi⟩ | ⟨h1, h2, hi⟩
    · rcases plk k l' hl' with ⟨i', hki, hi'⟩ | ⟨h1', h2', hi'⟩
      · have := hm'.apart i i' l l' b hi hi' hb hb'
        subst this
        rw [hji] at hki
        exact Option.some.inj hki
      · exact absurd (hm'.placed i l b hi hb).1 (others k l' b h1' hi' hb')
    · rcases plk k l' hl' with ⟨i', hki, hi'⟩ | ⟨h1', h2', hi'⟩
      · exact absurd (hm'.placed i' l' b hi' hb').1 (others j l b h1 hi hb)
      · exact hm.apart j k l l' b hi hi' hb hb'
  · intro b off hxb
    obtain ⟨g1, g2⟩ := hm'.xin b off hxb
    refine ⟨g1, fun j l hl => ?_⟩
    rcases plk j l hl with ⟨i, _, hi⟩ | ⟨h1, h2, hi⟩
    · exact g2 i l hi
    · rcases hX b off hxb with h | h
      · exact (hm.xin b off h).2 j l hi
      · exact free_of_ne fun b' hb' e => by subst e; exact others j l b' h1 hi hb' h

theorem callMop_ok {ρ : List (Nat × T)} {id : Nat} {o : Oper} {a : Act} {K : T → Mem → Prop} {next : Act → World → Prop} {Q : Exit → Act → World → Prop} (h : callMop P ρ m id o K) (hρ : EnvOk X pl w ρ a) (hm : MRel X W pl w m) (hid : pl id = none) (hW : ∀ b, w.heap.size ≤ b → W b)
    (hn : ∀ v t m' w', K t m' → StepOk X W pl w (some id) m' t v w' → next (a.put o.dst v) w') : o.wp P a w next Q := by
  unfold callMop at h
  split at h <;> try (exact h.elim)
  rename_i c hop
  split at h <;> try (exact h.elim)
  rename_i f hc
  unfold callM at h
  split at h <;> try (exact h.elim)
  rename_i fn hfn
  have hb := (chk_elim h).1
  replace h := (chk_elim h).2
  have hname := (chk_elim h).1
  replace h := (chk_elim h).2
  have hrun : (execOp a.eval o).run P w = .ok (.enter f (c.args.map a.eval)) w := by
    have hbn : ¬ fn.body = none := by rw [Option.isSome_iff_exists] at hb; obtain ⟨b, hb⟩ := hb; simp [hb]
    have hnm : ¬ fn.name = "runtime.NumGoroutine" := by simpa using hname
    simp [execOp, hop, resolve, hc, Act.eval, Deferred.ofValue, invoke, callFunc, hfn, hnm, hbn]
  unfold Oper.wp
  rw [hrun]
  have hrel : ∀ (i : Nat) (t : T) (v : Value), (c.args.toList.map (ev ρ))[i]? = some t → (c.args.map a.eval).toList[i]? = some v → VRel X pl w t v := evs_ok hρ c.args
  obtain ⟨js, ts0, m0, r, m1, mR, oR, hF, ⟨h1, h2, h3, h4, h5, h6, h7, h8⟩, hK⟩ := h
  rw [← h3] at hrel
  have hlen : ts0.length = (c.args.map a.eval).toList.length := by
    have := congrArg List.length h3
    simpa using this
  have := callM_step hm hid hW hF h1 h2 h4 h5 h7 h8 hlen hrel
  rw [Array.toArray_toList] at this
  refine this.mono ?_
  rintro e w' ⟨v, rfl, hst⟩
  rw [delL_eq, putL_eq, forceT_eq] at hK
  rw [h6] at hst
  exact hn _ _ _ _ hK hst

theorem opM_ok {ρ : List (Nat × T)} {rl : List Nat} {id : Nat} {o : Oper} {a : Act} {K : T → Mem → Prop} {next : Act → World → Prop} {Q : Exit → Act → World → Prop} (h : opM P ρ m rl id o K) (hρ : EnvOk X pl w ρ a) (hm : MRel X W pl w m) (hid : pl id = none) (hW : ∀ b, w.heap.size ≤ b → W b)
    (hn : ∀ v t m' w', K t m' → StepOk X W pl w (if (isNew o.op || mcall rl o) = true then some id else none) m' t v w' → next (a.put o.dst v) w') : o.wp P a w next Q := by
  unfold opM at h
  split at h
  · rename_i hc
    refine callMop_ok h hρ hm hid hW ?_
    intro v t m' w' hK hst
    refine hn v t m' w' hK ?_
    rw [hc, Bool.or_true, if_pos rfl]; exact hst
  · rename_i hc
    refine opA_ok h hρ hm hid hW ?_
    intro v t m' w' hK hst
    refine hn v t m' w' hK ?_
    rw [hc, Bool.or_false]; exact hst
end
end Go.AW
