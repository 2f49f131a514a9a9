import Derived.Test.YtmobiphgmdigjaaAw18
/- Regions that draw: any order comes to what the order of the text comes to. -/
set_option linter.unusedVariables false
set_option linter.unusedSimpArgs false
namespace Go.AW
open Go

/-- All that is known in the midst of a function. -/
structure Gd where
  d : List Deferred := []
  c : List (T × Value) := []
structure St (G : Gd) (X0 : Xs) (P0 : Pl) (W : Nat → Prop) (w0 : World) (t : List (Nat × T)) (m : Mem) (n x : Nat) (X : Xs) (pl : Pl) (a : Act) (w : World) : Prop where
  env : EnvOk X pl w t a
  mem : MRel X W pl w m
  size : a.tmps.size = n
  next : ∀ id, x ≤ id → pl id = none
  ext : Ext W w0 w
  mono : XMono X0 X w0 w
  news : ∀ b off, X b off → X0 b off ∨ W b
  fresh : ∀ b, w0.heap.size ≤ b → W b
  calm : a.defers = G.d
  pm : PMono P0 pl w0 w
  cap : ∀ p ∈ G.c, VRel X pl w p.1 p.2

section
variable {P : Program} {G : Gd} {X0 : Xs} {P0 : Pl} {W : Nat → Prop} {w0 : World} {X X' : Xs} {pl pl' : Pl} {w w' : World} {t : List (Nat × T)} {m m' : Mem} {n x : Nat} {a : Act}

theorem look_putT (l : List (Nat × T)) (d : Nat) (v : T) (i : Nat) : look (putT l d v) i = if i = d then v else look l i := by
  induction l with
  | nil =>
    by_cases h : i = d
    · subst h; simp [putT, look]
    · have := beq_ne (Ne.symm h); simp [putT, look, this, h]
  | cons p r ih =>
    obtain ⟨k, u⟩ := p
    cases hk : Nat.beq k d with
    | true =>
      obtain rfl := Nat.eq_of_beq_eq_true hk
      by_cases h : i = k
      · subst h; simp [putT, look]
      · have := beq_ne (Ne.symm h); simp [putT, look, this, h]
    | false =>
      simp only [putT, hk, cond_false]
      cases hi : Nat.beq k i with
      | true =>
        obtain rfl := Nat.eq_of_beq_eq_true hi
        have hne : k ≠ d := fun e => by subst e; simp at hk
        simp [look, hne]
      | false => simp [look, hi, ih]

theorem getD_put (a : Act) (d : Nat) (v : Value) (hd : d < a.tmps.size) (i : Nat) : (a.put (some d) v).tmps.getD i undef = if i = d then v else a.tmps.getD i undef := by
  simp only [Act.put, Array.getD_eq_getD_getElem?, Array.getElem?_setIfInBounds]
  by_cases h : d = i
  · subst h; simp [hd]
  · simp [h, Ne.symm h]

theorem putD_elim {d : Option Nat} {v : T} {K : List (Nat × T) → Prop} (h : putD t n d v K) : (d = none ∧ K t) ∨ ∃ i, d = some i ∧ i < n ∧ K (putT t i v) := by
  unfold putD at h
  split at h
  · exact .inl ⟨rfl, h⟩
  · rename_i i
    obtain ⟨h1, h2⟩ := chk_elim h
    rw [putF_eq] at h2
    refine .inr ⟨i, rfl, ?_, h2⟩
    have : i + 1 ≤ n := by simpa [Nat.blt] using h1
    exact this

/-- The slots, behind a step. -/
theorem St.put (h : St G X0 P0 W w0 t m n x X pl a w) {id : Option Nat} {tv : T} {v : Value} (hs : StepOk X W pl w id m' tv v w') {x' : Nat} (hx : ∀ i, x' ≤ i → x ≤ i ∧ id ≠ some i) {d : Option Nat} {K : List (Nat × T) → Prop} (hk : putD t n d tv K) :
    ∃ t' X' pl', K t' ∧ St G X0 P0 W w0 t' m' n x' X' pl' (a.put d v) w' := by
  obtain ⟨X', pl', hxm, hp, hn, he, hm, hv, hX⟩ := hs
  have base : EnvOk X' pl' w' t a := fun i => (h.env i).mono hxm hp
  have rest : ∀ (t' : List (Nat × T)) (a' : Act), EnvOk X' pl' w' t' a' → a'.tmps.size = n → a'.defers = G.d → St G X0 P0 W w0 t' m' n x' X' pl' a' w' := by
    intro t' a' h1 h2 h3
    refine ⟨h1, hm, h2, fun i hi => hn i (hx i hi).2 (h.next i (hx i hi).1), h.ext.trans he, h.mono.trans hxm, ?_, h.fresh, h3, h.pm.trans hp, fun p hpc => (h.cap p hpc).mono hxm hp⟩
    intro b off hb
    rcases hX b off hb with h4 | h4
    · exact h.news b off h4
    · exact .inr h4
  rcases putD_elim hk with ⟨rfl, hK⟩ | ⟨i, rfl, hi, hK⟩
  · exact ⟨t, X', pl', hK, rest t _ base h.size h.calm⟩
  · have hi' : i < a.tmps.size := by rw [h.size]; exact hi
    refine ⟨_, X', pl', hK, rest _ _ ?_ (by simp [Act.put, h.size]) h.calm⟩
    intro k
    rw [look_putT, getD_put a i v hi']
    split
    · exact hv
    · exact base k

theorem yielded_eq {ops : Array Oper} {o : Oper} {j d : Nat} {b : Bool} (ho : ops[j]? = some o) (hd : o.dst = some d) (hv : a.tmps.getD d undef = .bool b) : yielded ops a.tmps j = some b := by
  unfold yielded
  simp only [ho, Option.bind_some, hd]
  rw [Array.getD_eq_getD_getElem?] at hv
  cases e : a.tmps[d]? with
  | none => rw [e] at hv; simp [undef] at hv
  | some u => rw [e] at hv; simp at hv; subst hv; rfl

theorem yielded_none {ops : Array Oper} {o : Oper} {j d : Nat} {vs : Array Value} (ho : ops[j]? = some o) (hd : o.dst = some d) (hv : a.tmps.getD d undef = .tuple vs) : yielded ops a.tmps j = none := by
  unfold yielded
  simp only [ho, Option.bind_some, hd]
  rw [Array.getD_eq_getD_getElem?] at hv
  cases e : a.tmps[d]? with
  | none => rfl
  | some u => rw [e] at hv; simp at hv; subst hv; rfl

/-- A guard's word. -/
theorem guard_elim {ops : Array Oper} {o : Oper} {p q : Prop} (henv : EnvOk X pl w t a) (h : guardA t ops o.guard p q) :
    (Region.wanted o (yielded ops a.tmps) = true ∧ p) ∨ (Region.wanted o (yielded ops a.tmps) = false ∧ q) := by
  unfold guardA at h
  unfold Region.wanted
  split at h
  · rename_i hg; rw [hg]; exact .inl ⟨rfl, h⟩
  · rename_i j wt hg
    rw [hg]
    split at h <;> try (exact h.elim)
    rename_i oj hoj
    split at h <;> try (exact h.elim)
    rename_i d hd
    have hv := henv d
    split at h
    · rename_i b hb
      rw [hb] at hv
      have hy := yielded_eq hoj hd hv.lit_inv
      simp only [hy]
      split at h <;> cases b <;> simp_all [br]
    · rename_i vs hb
      rw [hb] at hv
      have hy := yielded_none hoj hd hv.lit_inv
      simp only [hy]
      exact .inr ⟨rfl, h⟩
    · exact h.elim

end

section last
variable {α : Type} (wr : Nat → List Nat) (g : Nat → Nat → α)

/-- What lies at a place when the operations of `L` are done: what the last of them, in the order of the text, has left. -/
def lastW (L : Nat → Bool) : Nat → Nat → α
  | 0, k => g 0 k
  | i + 1, k => if L i = true ∧ k ∈ wr i then g (i + 1) k else lastW L i k

theorem lastW_eq (hg : ∀ i k, k ∉ wr i → g (i + 1) k = g i k) (L : Nat → Bool) (k : Nat) : ∀ (n i : Nat), i ≤ n → (∀ j, j < n → k ∈ wr j → (L j = true ↔ j < i)) → lastW wr g L n k = g i k
  | 0, i, hi, _ => by obtain rfl : i = 0 := by omega
                      rfl
  | n + 1, i, hi, h => by
    simp only [lastW]
    by_cases hk : k ∈ wr n
    · have h1 := h n (by omega) hk
      by_cases hL : L n = true
      · have : n < i := h1.1 hL
        obtain rfl : i = n + 1 := by omega
        rw [if_pos ⟨hL, hk⟩]
      · have : ¬ n < i := fun e => hL (h1.2 e)
        rw [if_neg (fun e => hL e.1)]
        exact lastW_eq hg L k n i (by omega) fun j hj => h j (by omega)
    · rw [if_neg (fun e => hk e.2)]
      by_cases hin : i = n + 1
      · subst hin
        rw [hg n k hk]
        exact lastW_eq hg L k n n (Nat.le_refl _) fun j hj hkj => by
          have := h j (by omega) hkj
          constructor
          · intro _; exact hj
          · intro _; exact this.2 (by omega)
      · exact lastW_eq hg L k n i (by omega) fun j hj => h j (by omega)

theorem lastW_add (L : Nat → Bool) (i k : Nat) (hi : k ∈ wr i → ∀ j, L j = true → k ∈ wr j → j < i) : ∀ n, lastW wr g (fun j => L j || j == i) n k = if i < n ∧ k ∈ wr i then g (i + 1) k else lastW wr g L n k
  | 0 => by simp [lastW]
  | n + 1 => by
    have ih := lastW_add L i k hi n
    simp only [lastW, Bool.or_eq_true, beq_iff_eq]
    by_cases hk : k ∈ wr n
    · by_cases hn : n = i
      · subst hn
        simp [hk]
      · by_cases hL : L n = true
        · have : k ∈ wr i → n < i := fun h => hi h n hL hk
          simp only [hL, hk, true_or, and_self, if_true]
          by_cases hki : k ∈ wr i
          · have := this hki
            rw [if_neg (by omega)]
          · rw [if_neg (fun e => hki e.2)]
        · simp only [hL, hn, or_self, false_and, if_false, Bool.false_eq_true]
          rw [ih]
          by_cases hki : k ∈ wr i
          · simp only [hki, and_true]
            by_cases hin : i < n
            · rw [if_pos hin, if_pos (by omega)]
            · rw [if_neg hin, if_neg (by omega)]
          · simp [hki]
    · simp only [hk, and_false, if_false]
      rw [ih]
      by_cases hki : k ∈ wr i
      · simp only [hki, and_true]
        by_cases hin : i < n
        · rw [if_pos hin, if_pos (by omega)]
        · by_cases hn : n = i
          · subst hn; exact absurd hki hk
          · rw [if_neg hin, if_neg (by omega)]
      · simp [hki]

end last

/-- A guard's word. -/
def gval (t : List (Nat × T)) (ops : Array Oper) (g : Option (Nat × Bool)) : Option Bool :=
  match g with
  | none => some true
  | some (j, w) => match ops[j]? with
    | some o => match o.dst with
      | some d => match look t d with
        | .lit (.bool b) => some (b == w)
        | .lit (.tuple _) => some false
        | _ => none
      | none => none
    | none => none

theorem guardA_gval {t : List (Nat × T)} {ops : Array Oper} {g : Option (Nat × Bool)} {p q : Prop} (h : guardA t ops g p q) : (gval t ops g = some true ∧ p) ∨ (gval t ops g = some false ∧ q) := by
  unfold guardA at h
  unfold gval
  split at h
  · exact .inl ⟨rfl, h⟩
  · rename_i j w
    cases ho : ops[j]? with
    | none => simp only [ho] at h
    | some o =>
      simp only [ho] at h ⊢
      cases hd : o.dst with
      | none => simp only [hd] at h
      | some d =>
        simp only [hd] at h ⊢
        split at h
        · rename_i b hb
          cases w <;> cases b <;> simp_all [br]
        · rename_i hb; rw [hb]; exact .inr ⟨rfl, h⟩
        · exact h.elim

theorem gval_wanted {X : Xs} {pl : Pl} {w : World} {t : List (Nat × T)} {a : Act} {ops : Array Oper} {o : Oper} {b : Bool} (henv : EnvOk X pl w t a) (h : gval t ops o.guard = some b) : Region.wanted o (yielded ops a.tmps) = b := by
  unfold gval at h
  unfold Region.wanted
  split at h
  · rename_i hg; rw [hg]; exact Option.some.inj h
  · rename_i j wt hg
    rw [hg]
    cases ho : ops[j]? with
    | none => simp [ho] at h
    | some oj =>
      simp only [ho] at h
      cases hd : oj.dst with
      | none => simp [hd] at h
      | some d =>
        simp only [hd] at h
        have hv := henv d
        split at h
        · rename_i c hb
          rw [hb] at hv
          have hy := yielded_eq ho hd hv.lit_inv
          obtain rfl := Option.some.inj h
          simp only [hy]
          cases c <;> cases wt <;> rfl
        · rename_i vs hb
          rw [hb] at hv
          have hy := yielded_none ho hd hv.lit_inv
          obtain rfl := Option.some.inj h
          simp only [hy]
          rfl
        · cases h

/-- What is told of one operation of the text's run. -/
structure Ent where
  t : List (Nat × T)
  m : Mem
  r : Rec
  v : T
  m' : Mem
  go : Bool
  js : List Nat

def putO (t : List (Nat × T)) (d : Option Nat) (v : T) : List (Nat × T) := match d with
  | none => t
  | some i => putT t i v

def TraceOk (P : Program) (all : Array Oper) (n : Nat) (rl : List Nat) (x : Nat) : List Oper → Nat → List (Nat × T) → Mem → List Rec → List Ent → List (Nat × T) → Mem → Prop
  | [], _, t, m, _, es, tE, mE => es = [] ∧ tE = t ∧ mE = m
  | o :: l, i, t, m, rs, es, tE, mE => ∃ e es', es = e :: es' ∧ e.t = t ∧ e.m = m ∧ e.r.i = i ∧ e.r.mask = maskE rs o.after.toList 0 ∧ e.r.lk = looksL all o ∧ e.r.ds = o.dst.toList ∧
      okRec rs e.r = true ∧ gval t all o.guard = some e.go ∧
      (e.go = true → e.r.fp = fpJ t rl (x + i) e.js o ∧ e.r.wr = wrJ P t rl (x + i) e.js o ∧ LocalJ P rl (x + i) e.js o t m e.v e.m') ∧ (e.go = false → e.r.fp = [] ∧ e.r.wr = [] ∧ e.v = .lit undef ∧ e.m' = m) ∧
      (∀ d, o.dst = some d → d < n) ∧ TraceOk P all n rl x l (i + 1) (putO t o.dst e.v) e.m' (e.r :: rs) es' tE mE

theorem putD_O {t : List (Nat × T)} {n : Nat} {d : Option Nat} {v : T} {K : List (Nat × T) → Prop} (h : putD t n d v K) : (∀ i, d = some i → i < n) ∧ K (putO t d v) := by
  rcases putD_elim h with ⟨rfl, h⟩ | ⟨i, rfl, hi, h⟩
  · exact ⟨by simp, h⟩
  · exact ⟨fun j e => by cases e; exact hi, h⟩

theorem opsD_cons {P : Program} {all : Array Oper} {n : Nat} {rl : List Nat} {x : Nat} {KP : Value → List (Nat × T) → Mem → Prop} {o : Oper} {l : List Oper} {i : Nat} {t : List (Nat × T)} {m : Mem} {rs : List Rec} {K : List (Nat × T) → Mem → Prop} :
    opsD P all n rl x KP (o :: l) i t m rs K = forceNat (maskE rs o.after.toList 0) fun mask => forceL (looksL all o) fun lk => guardA t all o.guard
      (stepP rl o
        (chk (depB (2 ^ (i + 0)) (i + 0 + 1) l) <| jsK (!isPanic o) fun js => forceL js fun js => chk (okRec rs ⟨i, mask, lk, o.dst.toList, js, js⟩) <|
          opXJ P t m js o fun v m' => harmK P all n t m l (⟨i, 0, lk, [], [], []⟩ :: rs) fun rs' => dropT rs' t fun t' => dropM rs' m' fun m' => KP v t' m')
        (forceNat (x + i) fun id => jsK (mcall rl o) fun js => forceL (fpJ t rl id js o) fun fp => forceL (wrJ P t rl id js o) fun wr => chk (okRec rs ⟨i, mask, lk, o.dst.toList, fp, wr⟩) <|
          opJ P t m rl id js o fun v m' => putD t n o.dst v fun t' => opsD P all n rl x KP l (i + 1) t' m' (⟨i, mask, lk, o.dst.toList, fp, wr⟩ :: rs) K))
      (chk (okRec rs ⟨i, mask, lk, o.dst.toList, [], []⟩) <| putD t n o.dst (.lit undef) fun t' => opsD P all n rl x KP l (i + 1) t' m (⟨i, mask, lk, o.dst.toList, [], []⟩ :: rs) K) := rfl

theorem jsK_elim2 {b : Bool} {p : List Nat → Prop} (h : jsK b p) : ∃ js, p js ∧ (b = false → js = []) := by
  cases b with
  | true => obtain ⟨js, h⟩ := h; exact ⟨js, h, fun e => by cases e⟩
  | false => exact ⟨[], h, fun _ => rfl⟩
theorem jsK_elim {b : Bool} {p : List Nat → Prop} (h : jsK b p) : ∃ js, p js := by
  cases b with
  | true => exact h
  | false => exact ⟨[], h⟩
theorem stepP_elim {rl : List Nat} {o : Oper} {px pn : Prop} (h : stepP rl o px pn) : px ∨ pn := by
  unfold stepP at h
  split at h
  · exact .inl h
  · split at h
    · exact h.symm
    · exact .inr h

/-- The operation that panics. -/
def XAt (P : Program) (all : Array Oper) (n : Nat) (KP : Value → List (Nat × T) → Mem → Prop) (l2 : List Oper) (i : Nat) (o : Oper) (t : List (Nat × T)) (m : Mem) (rs : List Rec) : Prop :=
  ∃ (js : List Nat) (r : Rec) (v : Value) (m' : Mem), depB (2 ^ i) (i + 1) l2 = true ∧ r.i = i ∧ r.mask = maskE rs o.after.toList 0 ∧ r.lk = looksL all o ∧ r.ds = o.dst.toList ∧ r.fp = js ∧ r.wr = js ∧ okRec rs r = true ∧
    gval t all o.guard = some true ∧ (harmK P all n t m l2 (⟨i, 0, r.lk, [], [], []⟩ :: rs) fun rs' => dropT rs' t fun t' => dropM rs' m' fun m' => KP v t' m') ∧ (∀ k, k ∉ js → m'.get k = m.get k) ∧ (∀ k ∈ js, m'.get k = none) ∧
    ∀ (ρ2 : List (Nat × T)) (m2 : Mem), (∀ y ∈ o.op.operands.toList, ev ρ2 y = ev t y) → (∀ k ∈ js, m2.get k = m.get k) →
      ∀ K2 : Value → Mem → Prop, (∀ m2' : Mem, (∀ k, k ∉ js → m2'.get k = m2.get k) → K2 v m2') → opXJ P ρ2 m2 js o K2

theorem opsD_trace {P : Program} {all : Array Oper} {n : Nat} {rl : List Nat} {x : Nat} {KP : Value → List (Nat × T) → Mem → Prop} {K : List (Nat × T) → Mem → Prop} : ∀ (l : List Oper) (i : Nat) (t : List (Nat × T)) (m : Mem) (rs : List Rec), opsD P all n rl x KP l i t m rs K →
    (∃ es tE mE, TraceOk P all n rl x l i t m rs es tE mE ∧ K tE mE) ∨
      ∃ l1 o l2 es tE mE, l = l1 ++ o :: l2 ∧ TraceOk P all n rl x l1 i t m rs es tE mE ∧ XAt P all n KP l2 (i + l1.length) o tE mE ((es.map (·.r)).reverse ++ rs)
  | [], i, t, m, rs, h => .inl ⟨[], t, m, ⟨rfl, rfl, rfl⟩, h⟩
  | o :: l, i, t, m, rs, h => by
    have more : ∀ (e : Ent), (∀ {t' : List (Nat × T)} {m' : Mem}, t' = putO t o.dst e.v → m' = e.m' → ∀ {es' : List Ent} {tE : List (Nat × T)} {mE : Mem} {l' : List Oper}, TraceOk P all n rl x l' (i + 1) t' m' (e.r :: rs) es' tE mE → TraceOk P all n rl x (o :: l') i t m rs (e :: es') tE mE) →
        opsD P all n rl x KP l (i + 1) (putO t o.dst e.v) e.m' (e.r :: rs) K →
        (∃ es tE mE, TraceOk P all n rl x (o :: l) i t m rs es tE mE ∧ K tE mE) ∨
          ∃ l1 o' l2 es tE mE, o :: l = l1 ++ o' :: l2 ∧ TraceOk P all n rl x l1 i t m rs es tE mE ∧ XAt P all n KP l2 (i + l1.length) o' tE mE ((es.map (·.r)).reverse ++ rs) := by
      intro e hmk h
      rcases opsD_trace l _ _ _ _ h with ⟨es, tE, mE, htr, hK⟩ | ⟨l1, o', l2, es, tE, mE, rfl, htr, hx⟩
      · exact .inl ⟨e :: es, tE, mE, hmk rfl rfl htr, hK⟩
      · refine .inr ⟨o :: l1, o', l2, e :: es, tE, mE, rfl, hmk rfl rfl htr, ?_⟩
        have e1 : i + 1 + l1.length = i + (o :: l1).length := by simp; omega
        have e2 : (es.map (·.r)).reverse ++ e.r :: rs = ((e :: es).map (·.r)).reverse ++ rs := by simp
        rw [← e1, ← e2]; exact hx
    rw [opsD_cons, forceNat_eq, forceL_eq] at h
    rcases guardA_gval h with ⟨hg, h⟩ | ⟨hg, h⟩
    · rcases stepP_elim h with h | h
      · obtain ⟨hdep, h⟩ := chk_elim h
        obtain ⟨js, h, hjs⟩ := jsK_elim2 h
        rw [forceL_eq] at h
        obtain ⟨hok, h⟩ := chk_elim h
        obtain ⟨v, m', hK, h1, h3, h2⟩ := opXJ_local h
        refine .inr ⟨[], o, l, [], t, m, rfl, ⟨rfl, rfl, rfl⟩, js, _, v, m', hdep, rfl, rfl, rfl, rfl, rfl, rfl, hok, hg, hK, h1, fun k hk => ?_, h2⟩
        rcases h3 k hk with h | h
        · exact h
        · rw [hjs (by rw [h]; rfl)] at hk; cases hk
      · rw [forceNat_eq] at h
        obtain ⟨js, h⟩ := jsK_elim h
        rw [forceL_eq, forceL_eq] at h
        obtain ⟨hok, h⟩ := chk_elim h
        obtain ⟨v, m', h, hloc⟩ := opJ_local h
        obtain ⟨hd, h⟩ := putD_O h
        exact more ⟨t, m, _, v, m', true, js⟩ (by
          rintro t' m2 rfl rfl es' tE mE l' htr
          exact ⟨_, es', rfl, rfl, rfl, rfl, rfl, rfl, rfl, hok, hg, fun _ => ⟨rfl, rfl, hloc⟩, (fun h => Bool.noConfusion h), hd, htr⟩) h
    · obtain ⟨hok, h⟩ := chk_elim h
      obtain ⟨hd, h⟩ := putD_O h
      exact more ⟨t, m, _, .lit undef, m, false, []⟩ (by
        rintro t' m2 rfl rfl es' tE mE l' htr
        exact ⟨_, es', rfl, rfl, rfl, rfl, rfl, rfl, rfl, hok, hg, (fun h => Bool.noConfusion h), fun _ => ⟨rfl, rfl, rfl, rfl⟩, hd, htr⟩) h

/-- All that is known in the midst of a region that draws: `N` tells the ids that are free. -/
structure StG (G : Gd) (X0 : Xs) (P0 : Pl) (W : Nat → Prop) (w0 : World) (t : List (Nat × T)) (m : Mem) (n : Nat) (N : Nat → Prop) (X : Xs) (pl : Pl) (a : Act) (w : World) : Prop where
  env : EnvOk X pl w t a
  mem : MRel X W pl w m
  size : a.tmps.size = n
  next : ∀ id, N id → pl id = none
  ext : Ext W w0 w
  mono : XMono X0 X w0 w
  news : ∀ b off, X b off → X0 b off ∨ W b
  fresh : ∀ b, w0.heap.size ≤ b → W b
  calm : a.defers = G.d
  pm : PMono P0 pl w0 w
  cap : ∀ p ∈ G.c, VRel X pl w p.1 p.2

section
variable {G : Gd} {X0 : Xs} {P0 : Pl} {W : Nat → Prop} {w0 : World} {X : Xs} {pl : Pl} {w w' : World} {t : List (Nat × T)} {m m' : Mem} {n : Nat} {a : Act} {N N' : Nat → Prop}

theorem StG.put (h : StG G X0 P0 W w0 t m n N X pl a w) {id : Option Nat} {tv : T} {v : Value} (hs : StepOk X W pl w id m' tv v w') (hx : ∀ i, N' i → N i ∧ id ≠ some i) {d : Option Nat} (hd : ∀ i, d = some i → i < n) :
    ∃ X' pl', StG G X0 P0 W w0 (putO t d tv) m' n N' X' pl' (a.put d v) w' := by
  obtain ⟨X', pl', hxm, hp, hn, he, hm, hv, hX⟩ := hs
  have base : EnvOk X' pl' w' t a := fun i => (h.env i).mono hxm hp
  have rest : ∀ (t' : List (Nat × T)) (a' : Act), EnvOk X' pl' w' t' a' → a'.tmps.size = n → a'.defers = G.d → StG G X0 P0 W w0 t' m' n N' X' pl' a' w' := by
    intro t' a' h1 h2 h3
    refine ⟨h1, hm, h2, fun i hi => hn i (hx i hi).2 (h.next i (hx i hi).1), h.ext.trans he, h.mono.trans hxm, ?_, h.fresh, h3, h.pm.trans hp, fun p hpc => (h.cap p hpc).mono hxm hp⟩
    intro b off hb
    rcases hX b off hb with h4 | h4
    · exact h.news b off h4
    · exact .inr h4
  cases d with
  | none => exact ⟨X', pl', rest t _ base h.size h.calm⟩
  | some i =>
    have hi' : i < a.tmps.size := by rw [h.size]; exact hd i rfl
    refine ⟨X', pl', rest _ _ ?_ (by simp [Act.put, h.size]) h.calm⟩
    intro k
    simp only [putO]
    rw [look_putT, getD_put a i v hi']
    split
    · exact hv
    · exact base k
end

section trace
variable {P : Program} {all : Array Oper} {n : Nat} {rl : List Nat} {x : Nat}

def recsOf (es : List Ent) (rs : List Rec) (i : Nat) : List Rec := ((es.take i).map (·.r)).reverse ++ rs
def tAt (es : List Ent) (tE : List (Nat × T)) (i : Nat) : List (Nat × T) := match es[i]? with | some e => e.t | none => tE
def mAt (es : List Ent) (mE : Mem) (i : Nat) : Mem := match es[i]? with | some e => e.m | none => mE

/-- What the trace tells of the operation with number `i`. -/
structure EntOk (P : Program) (all : Array Oper) (n : Nat) (rl : List Nat) (x : Nat) (es : List Ent) (rs : List Rec) (tE : List (Nat × T)) (mE : Mem) (k : Nat) (i : Nat) (o : Oper) (e : Ent) : Prop where
  num : e.r.i = k + i
  mask : e.r.mask = maskE (recsOf es rs i) o.after.toList 0
  lk : e.r.lk = looksL all o
  ds : e.r.ds = o.dst.toList
  ok : okRec (recsOf es rs i) e.r = true
  gv : gval e.t all o.guard = some e.go
  yes : e.go = true → e.r.fp = fpJ e.t rl (x + (k + i)) e.js o ∧ e.r.wr = wrJ P e.t rl (x + (k + i)) e.js o ∧ LocalJ P rl (x + (k + i)) e.js o e.t e.m e.v e.m'
  no : e.go = false → e.r.fp = [] ∧ e.r.wr = [] ∧ e.v = .lit undef ∧ e.m' = e.m
  dst : ∀ d, o.dst = some d → d < n
  tnext : tAt es tE (i + 1) = putO e.t o.dst e.v
  mnext : mAt es mE (i + 1) = e.m'

theorem trace_first {l : List Oper} {k : Nat} {t : List (Nat × T)} {m : Mem} {rs : List Rec} {es : List Ent} {tE : List (Nat × T)} {mE : Mem} (h : TraceOk P all n rl x l k t m rs es tE mE) : tAt es tE 0 = t ∧ mAt es mE 0 = m := by
  cases l with
  | nil => obtain ⟨rfl, rfl, rfl⟩ := h; exact ⟨rfl, rfl⟩
  | cons o l => obtain ⟨e, es', rfl, h1, h2, _⟩ := h; exact ⟨h1, h2⟩

theorem trace_get : ∀ {l : List Oper} {k : Nat} {t : List (Nat × T)} {m : Mem} {rs : List Rec} {es : List Ent} {tE : List (Nat × T)} {mE : Mem}, TraceOk P all n rl x l k t m rs es tE mE →
    es.length = l.length ∧ ∀ (i : Nat) (o : Oper), l[i]? = some o → ∃ e, es[i]? = some e ∧ EntOk P all n rl x es rs tE mE k i o e
  | [], k, t, m, rs, es, tE, mE, h => by obtain ⟨rfl, rfl, rfl⟩ := h; exact ⟨rfl, by simp⟩
  | o :: l, k, t, m, rs, es, tE, mE, h => by
    obtain ⟨e, es', rfl, ht, hm, h1, h2, h3, h4, h5, h6, h7, h8, h9, h10⟩ := h
    subst ht hm
    obtain ⟨hlen, hget⟩ := trace_get h10
    obtain ⟨f1, f2⟩ := trace_first h10
    refine ⟨by simp [hlen], ?_⟩
    intro i o' ho
    cases i with
    | zero =>
      simp only [List.getElem?_cons_zero, Option.some.injEq] at ho
      subst ho
      exact ⟨e, rfl, ⟨h1, h2, h3, h4, h5, h6, h7, h8, h9, f1, f2⟩⟩
    | succ i =>
      obtain ⟨e', he', q⟩ := hget i o' (by simpa using ho)
      have er : recsOf (e :: es') rs (i + 1) = recsOf es' (e.r :: rs) i := by simp [recsOf]
      have ek : k + 1 + i = k + (i + 1) := by omega
      refine ⟨e', by simpa using he', ⟨by rw [q.num, ek], by rw [er]; exact q.mask, q.lk, q.ds, by rw [er]; exact q.ok, q.gv, by rw [← ek]; exact q.yes, q.no, q.dst, ?_, ?_⟩⟩
      · exact q.tnext
      · exact q.mnext
end trace

end Go.AW

/- Regions that draw, on: every order comes to the text's end. -/
set_option linter.unusedVariables false
set_option linter.unusedSimpArgs false
namespace Go.AW
open Go

theorem memB_iff {l : List Nat} {i : Nat} : memB l i = true ↔ i ∈ l := by
  induction l with
  | nil => simp [memB]
  | cons k r ih =>
    simp only [memB, List.mem_cons]
    cases h : Nat.beq k i with
    | true => simp [Nat.eq_of_beq_eq_true h]
    | false =>
      have : ¬ i = k := fun e => by subst e; simp at h
      simp [ih, this]
theorem disjB_not {a b : List Nat} (h : disjB a b = true) {k : Nat} (ha : k ∈ a) (hb : k ∈ b) : False := by
  induction a with
  | nil => cases ha
  | cons i r ih =>
    simp only [disjB] at h
    cases e : memB b i with
    | true => simp [e] at h
    | false =>
      simp only [e, cond_false] at h
      rcases List.mem_cons.1 ha with rfl | ha
      · rw [memB_iff.2 hb] at e; cases e
      · exact ih h ha

/-- Two operations that have nothing in common. -/
structure Apart (r q : Rec) : Prop where
  wf : ∀ k, k ∈ r.wr → k ∈ q.fp → False
  fw : ∀ k, k ∈ q.wr → k ∈ r.fp → False
  ww : ∀ k, k ∈ q.wr → k ∈ r.wr → False
  dl : ∀ k, k ∈ r.ds → k ∈ q.lk → False
  ld : ∀ k, k ∈ q.ds → k ∈ r.lk → False
  dd : ∀ k, k ∈ q.ds → k ∈ r.ds → False

theorem okRec_mem {rs : List Rec} {q : Rec} (h : okRec rs q = true) {r : Rec} (hr : r ∈ rs) : Nat.testBit q.mask r.i = true ∨ Apart r q := by
  induction rs with
  | nil => cases hr
  | cons a rs ih =>
    simp only [okRec] at h
    cases e : (Nat.testBit q.mask a.i || (disjB a.wr q.fp && disjB q.wr a.fp && disjB q.wr a.wr && disjB a.ds q.lk && disjB q.ds a.lk && disjB q.ds a.ds)) with
    | false => simp [e] at h
    | true =>
      simp only [e, cond_true] at h
      rcases List.mem_cons.1 hr with rfl | hr
      · simp only [Bool.or_eq_true, Bool.and_eq_true] at e
        rcases e with e | ⟨⟨⟨⟨⟨e1, e2⟩, e3⟩, e4⟩, e5⟩, e6⟩
        · exact .inl e
        · exact .inr ⟨fun k => disjB_not e1, fun k => disjB_not e2, fun k => disjB_not e3, fun k => disjB_not e4, fun k => disjB_not e5, fun k => disjB_not e6⟩
      · exact ih h hr

theorem maskOf_bit {rs : List Rec} {j k : Nat} (h : Nat.testBit (maskOf rs j) k = true) : ∃ r ∈ rs, r.i = j ∧ Nat.testBit r.mask k = true := by
  induction rs with
  | nil => simp [maskOf] at h
  | cons r rs ih =>
    simp only [maskOf] at h
    cases e : Nat.beq r.i j with
    | true => simp only [e, cond_true] at h; exact ⟨r, by simp, Nat.eq_of_beq_eq_true e, h⟩
    | false =>
      simp only [e, cond_false] at h
      obtain ⟨q, hq, h1, h2⟩ := ih h
      exact ⟨q, by simp [hq], h1, h2⟩

theorem maskE_bit {rs : List Rec} {k : Nat} : ∀ {es : List Edge} {a : Nat}, Nat.testBit (maskE rs es a) k = true →
    Nat.testBit a k = true ∨ ∃ e ∈ es, Region.binds .any e = true ∧ (k = e.on ∨ Nat.testBit (maskOf rs e.on) k = true)
  | [], a, h => .inl h
  | e :: r, a, h => by
    simp only [maskE] at h
    cases hb : Region.binds .any e with
    | true =>
      simp only [hb, cond_true] at h
      rcases maskE_bit h with h | ⟨e', he, h1, h2⟩
      · simp only [Nat.testBit_or, Bool.or_eq_true, Nat.testBit_two_pow] at h
        rcases h with (h | h) | h
        · exact .inl h
        · exact .inr ⟨e, by simp, hb, .inl (by have h' := h; simp at h'; exact h'.symm)⟩
        · exact .inr ⟨e, by simp, hb, .inr h⟩
      · exact .inr ⟨e', by simp [he], h1, h2⟩
    | false =>
      simp only [hb, cond_false] at h
      rcases maskE_bit h with h | ⟨e', he, h1, h2⟩
      · exact .inl h
      · exact .inr ⟨e', by simp [he], h1, h2⟩

theorem recsOf_mem {es : List Ent} {i : Nat} {r : Rec} : r ∈ recsOf es [] i ↔ ∃ j e, j < i ∧ es[j]? = some e ∧ e.r = r := by
  simp only [recsOf, List.append_nil, List.mem_reverse, List.mem_map]
  constructor
  · rintro ⟨e, he, rfl⟩
    obtain ⟨j, hj⟩ := List.getElem?_of_mem he
    rw [List.getElem?_take] at hj
    split at hj
    · rename_i h; exact ⟨j, e, h, hj, rfl⟩
    · cases hj
  · rintro ⟨j, e, hj, he, rfl⟩
    refine ⟨e, ?_, rfl⟩
    refine List.mem_of_getElem? (i := j) ?_
    rw [List.getElem?_take, if_pos hj, he]

section
variable {P : Program} {ops : Array Oper} {n : Nat} {rl : List Nat} {x : Nat} {es : List Ent} {tE : List (Nat × T)} {mE : Mem}

/-- Every operation of the region, up to some, is told of. -/
def Told (P : Program) (ops : Array Oper) (n : Nat) (rl : List Nat) (x : Nat) (es : List Ent) (tE : List (Nat × T)) (mE : Mem) : Prop :=
  ∀ (i : Nat) (o : Oper), i < es.length → ops[i]? = some o → ∃ e, es[i]? = some e ∧ EntOk P ops n rl x es [] tE mE 0 i o e

/-- A set of operations with all that come before them. -/
def Closed (ops : Array Oper) (L : Nat → Bool) : Prop := ∀ i o, ops[i]? = some o → L i = true → ∀ e ∈ o.after, Region.binds .any e = true → L e.on = true

theorem mask_in (ht : Told P ops n rl x es tE mE) {L : Nat → Bool} (hc : Closed ops L) : ∀ (i : Nat) (o : Oper) (e : Ent), ops[i]? = some o → es[i]? = some e →
    (∀ ed ∈ o.after, Region.binds .any ed = true → L ed.on = true) → ∀ k, Nat.testBit e.r.mask k = true → L k = true := by
  intro i
  induction i using Nat.strongRecOn with
  | _ i ih =>
    intro o e ho he hL k hk
    obtain ⟨e', he', q⟩ := ht i o (List.getElem?_eq_some_iff.1 he).1 ho
    obtain rfl : e' = e := by rw [he] at he'; exact (Option.some.inj he').symm
    rw [q.mask] at hk
    rcases maskE_bit hk with h | ⟨ed, hed, hb, h⟩
    · simp at h
    · have hLe := hL ed (by simpa using hed) hb
      rcases h with rfl | h
      · exact hLe
      · obtain ⟨r, hr, h1, h2⟩ := maskOf_bit h
        obtain ⟨j, ej, hj, hej, rfl⟩ := recsOf_mem.1 hr
        have hlt : j < ops.size := by
          have := (Array.getElem?_eq_some_iff.1 ho).1
          omega
        obtain ⟨ej', hej', qj⟩ := ht j _ (List.getElem?_eq_some_iff.1 hej).1 (Array.getElem?_eq_getElem hlt)
        obtain rfl : ej' = ej := by rw [hej] at hej'; exact (Option.some.inj hej').symm
        have hij : j = ed.on := by rw [← h1, qj.num]; omega
        subst hij
        exact ih _ hj _ _ (Array.getElem?_eq_getElem hlt) hej (hc _ _ (Array.getElem?_eq_getElem hlt) hLe) k h2

def wrI (es : List Ent) (i : Nat) : List Nat := match es[i]? with | some e => e.r.wr | none => []
def dsI (es : List Ent) (i : Nat) : List Nat := match es[i]? with | some e => e.r.ds | none => []

theorem wrI_some {i : Nat} {e : Ent} (h : es[i]? = some e) : wrI es i = e.r.wr := by simp [wrI, h]
theorem dsI_some {i : Nat} {e : Ent} (h : es[i]? = some e) : dsI es i = e.r.ds := by simp [dsI, h]
theorem tAt_some {i : Nat} {e : Ent} (h : es[i]? = some e) : tAt es tE i = e.t := by simp [tAt, h]

theorem mAt_some {i : Nat} {e : Ent} (h : es[i]? = some e) : mAt es mE i = e.m := by simp [mAt, h]

theorem look_putO (t : List (Nat × T)) (d : Option Nat) (v : T) (k : Nat) : look (putO t d v) k = if k ∈ d.toList then v else look t k := by
  cases d with
  | none => simp [putO]
  | some i => simp [putO, look_putT]

/-- What lies where in the end, whatever the order. -/
theorem stays (hlen : es.length ≤ ops.size) (ht : Told P ops n rl x es tE mE) :
    (∀ i k, k ∉ dsI es i → look (tAt es tE (i + 1)) k = look (tAt es tE i) k) ∧ (∀ i k, k ∉ wrI es i → (mAt es mE (i + 1)).get k = (mAt es mE i).get k) := by
  constructor
  · intro i k hk
    rcases Nat.lt_or_ge i es.length with hi | hi
    · obtain ⟨e, he, q⟩ := ht i _ hi (Array.getElem?_eq_getElem (by omega : i < ops.size))
      rw [q.tnext, tAt_some he, look_putO]
      rw [dsI_some he, q.ds] at hk
      rw [if_neg hk]
    · have h1 : es[i]? = none := List.getElem?_eq_none (by omega)
      have h2 : es[i + 1]? = none := List.getElem?_eq_none (by omega)
      simp [tAt, h1, h2]
  · intro i k hk
    rcases Nat.lt_or_ge i es.length with hi | hi
    · obtain ⟨e, he, q⟩ := ht i _ hi (Array.getElem?_eq_getElem (by omega : i < ops.size))
      rw [q.mnext, mAt_some he]
      rw [wrI_some he] at hk
      cases hg : e.go with
      | true =>
        obtain ⟨_, h2, h3⟩ := q.yes hg
        exact h3.1 k (by rw [← h2]; exact hk)
      | false => rw [(q.no hg).2.2.2]
    · have h1 : es[i]? = none := List.getElem?_eq_none (by omega)
      have h2 : es[i + 1]? = none := List.getElem?_eq_none (by omega)
      simp [mAt, h1, h2]

end
end Go.AW
