/- Regions that draw: any order comes to what the order of the text comes to. -/
import Derived.Test.YtciboampiaainaaDoorAw18
set_option linter.unusedVariables false
set_option linter.unusedSimpArgs false
namespace Go.AW
open Go

/-- All that is known in the midst of a function. -/
structure St (X0 : Xs) (P0 : Pl) (W : Nat → Prop) (w0 : World) (t : List (Nat × T)) (m : Mem) (n x : Nat) (X : Xs) (pl : Pl) (a : Act) (w : World) : Prop where
  env : EnvOk X pl w t a
  mem : MRel X W pl w m
  size : a.tmps.size = n
  next : ∀ id, x ≤ id → pl id = none
  ext : Ext W w0 w
  mono : XMono X0 X w0 w
  news : ∀ b off, X b off → X0 b off ∨ W b
  fresh : ∀ b, w0.heap.size ≤ b → W b
  calm : a.defers = []
  pm : PMono P0 pl w0 w

section
variable {P : Program} {X0 : Xs} {P0 : Pl} {W : Nat → Prop} {w0 : World} {X X' : Xs} {pl pl' : Pl} {w w' : World} {t : List (Nat × T)} {m m' : Mem} {n x : Nat} {a : Act}

theorem look_putT (l : List (Nat × T)) (d : Nat) (v : T) (i : Nat) : look (putT l d v) i = if i = d then v else look l i := by
  induction l with
  | nil =>
    by_cases h : i = d
    · subst h; simp [putT, look]
    · have := beq_ne (Ne.symm h); simp [putT, look, this, h]
  | cons p r ih =>
    obtain ⟨k, u⟩ := p
    cases hk : Nat.beq k d with
    | true =>
      obtain rfl := Nat.eq_of_beq_eq_true hk
      by_cases h : i = k
      · subst h; simp [putT, look]
      · have := beq_ne (Ne.symm h); simp [putT, look, this, h]
    | false =>
      simp only [putT, hk, cond_false]
      cases hi : Nat.beq k i with
      | true =>
        obtain rfl := Nat.eq_of_beq_eq_true hi
        have hne : k ≠ d := fun e => by subst e; simp at hk
        simp [look, hne]
      | false => simp [look, hi, ih]

theorem getD_put (a : Act) (d : Nat) (v : Value) (hd : d < a.tmps.size) (i : Nat) : (a.put (some d) v).tmps.getD i undef = if i = d then v else a.tmps.getD i undef := by
  simp only [Act.put, Array.getD_eq_getD_getElem?, Array.getElem?_setIfInBounds]
  by_cases h : d = i
  · subst h; simp [hd]
  · simp [h, Ne.symm h]

theorem putD_elim {d : Option Nat} {v : T} {K : List (Nat × T) → Prop} (h : putD t n d v K) : (d = none ∧ K t) ∨ ∃ i, d = some i ∧ i < n ∧ K (putT t i v) := by
  unfold putD at h
  split at h
  · exact .inl ⟨rfl, h⟩
  · rename_i i
    obtain ⟨h1, h2⟩ := chk_elim h
    rw [putF_eq] at h2
    refine .inr ⟨i, rfl, ?_, h2⟩
    have : i + 1 ≤ n := by simpa [Nat.blt] using h1
    exact this

/-- The slots, behind a step. -/
theorem St.put (h : St X0 P0 W w0 t m n x X pl a w) {id : Option Nat} {tv : T} {v : Value} (hs : StepOk X W pl w id m' tv v w') {x' : Nat} (hx : ∀ i, x' ≤ i → x ≤ i ∧ id ≠ some i) {d : Option Nat} {K : List (Nat × T) → Prop} (hk : putD t n d tv K) :
    ∃ t' X' pl', K t' ∧ St X0 P0 W w0 t' m' n x' X' pl' (a.put d v) w' := by
  obtain ⟨X', pl', hxm, hp, hn, he, hm, hv, hX⟩ := hs
  have base : EnvOk X' pl' w' t a := fun i => (h.env i).mono hxm hp
  have rest : ∀ (t' : List (Nat × T)) (a' : Act), EnvOk X' pl' w' t' a' → a'.tmps.size = n → a'.defers = [] → St X0 P0 W w0 t' m' n x' X' pl' a' w' := by
    intro t' a' h1 h2 h3
    refine ⟨h1, hm, h2, fun i hi => hn i (hx i hi).2 (h.next i (hx i hi).1), h.ext.trans he, h.mono.trans hxm, ?_, h.fresh, h3, h.pm.trans hp⟩
    intro b off hb
    rcases hX b off hb with h4 | h4
    · exact h.news b off h4
    · exact .inr h4
  rcases putD_elim hk with ⟨rfl, hK⟩ | ⟨i, rfl, hi, hK⟩
  · exact ⟨t, X', pl', hK, rest t _ base h.size h.calm⟩
  · have hi' : i < a.tmps.size := by rw [h.size]; exact hi
    refine ⟨_, X', pl', hK, rest _ _ ?_ (by simp [Act.put, h.size]) h.calm⟩
    intro k
    rw [look_putT, getD_put a i v hi']
    split
    · exact hv
    · exact base k

theorem yielded_eq {ops : Array Oper} {o : Oper} {j d : Nat} {b : Bool} (ho : ops[j]? = some o) (hd : o.dst = some d) (hv : a.tmps.getD d undef = .bool b) : yielded ops a.tmps j = some b := by
  unfold yielded
  simp only [ho, Option.bind_some, hd]
  rw [Array.getD_eq_getD_getElem?] at hv
  cases e : a.tmps[d]? with
  | none => rw [e] at hv; simp [undef] at hv
  | some u => rw [e] at hv; simp at hv; subst hv; rfl

theorem yielded_none {ops : Array Oper} {o : Oper} {j d : Nat} {vs : Array Value} (ho : ops[j]? = some o) (hd : o.dst = some d) (hv : a.tmps.getD d undef = .tuple vs) : yielded ops a.tmps j = none := by
  unfold yielded
  simp only [ho, Option.bind_some, hd]
  rw [Array.getD_eq_getD_getElem?] at hv
  cases e : a.tmps[d]? with
  | none => rfl
  | some u => rw [e] at hv; simp at hv; subst hv; rfl

/-- A guard's word. -/
theorem guard_elim {ops : Array Oper} {o : Oper} {p q : Prop} (henv : EnvOk X pl w t a) (h : guardA t ops o.guard p q) :
    (Region.wanted o (yielded ops a.tmps) = true ∧ p) ∨ (Region.wanted o (yielded ops a.tmps) = false ∧ q) := by
  unfold guardA at h
  unfold Region.wanted
  split at h
  · rename_i hg; rw [hg]; exact .inl ⟨rfl, h⟩
  · rename_i j wt hg
    rw [hg]
    split at h <;> try (exact h.elim)
    rename_i oj hoj
    split at h <;> try (exact h.elim)
    rename_i d hd
    have hv := henv d
    split at h
    · rename_i b hb
      rw [hb] at hv
      have hy := yielded_eq hoj hd hv.lit_inv
      simp only [hy]
      split at h <;> cases b <;> simp_all [br]
    · rename_i vs hb
      rw [hb] at hv
      have hy := yielded_none hoj hd hv.lit_inv
      simp only [hy]
      exact .inr ⟨rfl, h⟩
    · exact h.elim

end

section last
variable {α : Type} (wr : Nat → List Nat) (g : Nat → Nat → α)

/-- What lies at a place when the operations of `L` are done: what the last of them, in the order of the text, has left. -/
def lastW (L : Nat → Bool) : Nat → Nat → α
  | 0, k => g 0 k
  | i + 1, k => if L i = true ∧ k ∈ wr i then g (i + 1) k else lastW L i k

theorem lastW_eq (hg : ∀ i k, k ∉ wr i → g (i + 1) k = g i k) (L : Nat → Bool) (k : Nat) : ∀ (n i : Nat), i ≤ n → (∀ j, j < n → k ∈ wr j → (L j = true ↔ j < i)) → lastW wr g L n k = g i k
  | 0, i, hi, _ => by obtain rfl : i = 0 := by omega
                      rfl
  | n + 1, i, hi, h => by
    simp only [lastW]
    by_cases hk : k ∈ wr n
    · have h1 := h n (by omega) hk
      by_cases hL : L n = true
      · have : n < i := h1.1 hL
        obtain rfl : i = n + 1 := by omega
        rw [if_pos ⟨hL, hk⟩]
      · have : ¬ n < i := fun e => hL (h1.2 e)
        rw [if_neg (fun e => hL e.1)]
        exact lastW_eq hg L k n i (by omega) fun j hj => h j (by omega)
    · rw [if_neg (fun e => hk e.2)]
      by_cases hin : i = n + 1
      · subst hin
        rw [hg n k hk]
        exact lastW_eq hg L k n n (Nat.le_refl _) fun j hj hkj => by
          have := h j (by omega) hkj
          constructor
          · intro _; exact hj
          · intro _; exact this.2 (by omega)
      · exact lastW_eq hg L k n i (by omega) fun j hj => h j (by omega)

theorem lastW_add (L : Nat → Bool) (i k : Nat) (hi : k ∈ wr i → ∀ j, L j = true → k ∈ wr j → j < i) : ∀ n, lastW wr g (fun j => L j || j == i) n k = if i < n ∧ k ∈ wr i then g (i + 1) k else lastW wr g L n k
  | 0 => by simp [lastW]
  | n + 1 => by
    have ih := lastW_add L i k hi n
    simp only [lastW, Bool.or_eq_true, beq_iff_eq]
    by_cases hk : k ∈ wr n
    · by_cases hn : n = i
      · subst hn
        simp [hk]
      · by_cases hL : L n = true
        · have : k ∈ wr i → n < i := fun h => hi h n hL hk
          simp only [hL, hk, true_or, and_self, if_true]
          by_cases hki : k ∈ wr i
          · have := this hki
            rw [if_neg (by omega)]
          · rw [if_neg (fun e => hki e.2)]
        · simp only [hL, hn, or_self, false_and, if_false, Bool.false_eq_true]
          rw [ih]
          by_cases hki : k ∈ wr i
          · simp only [hki, and_true]
            by_cases hin : i < n
            · rw [if_pos hin, if_pos (by omega)]
            · rw [if_neg hin, if_neg (by omega)]
          · simp [hki]
    · simp only [hk, and_false, if_false]
      rw [ih]
      by_cases hki : k ∈ wr i
      · simp only [hki, and_true]
        by_cases hin : i < n
        · rw [if_pos hin, if_pos (by omega)]
        · by_cases hn : n = i
          · subst hn; exact absurd hki hk
          · rw [if_neg hin, if_neg (by omega)]
      · simp [hki]

end last

/-- A guard's word. -/
def gval (t : List (Nat × T)) (ops : Array Oper) (g : Option (Nat × Bool)) : Option Bool :=
  match g with
  | none => some true
  | some (j, w) => match ops[j]? with
    | some o => match o.dst with
      | some d => match look t d with
        | .lit (.bool b) => some (b == w)
        | .lit (.tuple _) => some false
        | _ => none
      | none => none
    | none => none

theorem guardA_gval {t : List (Nat × T)} {ops : Array Oper} {g : Option (Nat × Bool)} {p q : Prop} (h : guardA t ops g p q) : (gval t ops g = some true ∧ p) ∨ (gval t ops g = some false ∧ q) := by
  unfold guardA at h
  unfold gval
  split at h
  · exact .inl ⟨rfl, h⟩
  · rename_i j w
    cases ho : ops[j]? with
    | none => simp only [ho] at h
    | some o =>
      simp only [ho] at h ⊢
      cases hd : o.dst with
      | none => simp only [hd] at h
      | some d =>
        simp only [hd] at h ⊢
        split at h
        · rename_i b hb
          cases w <;> cases b <;> simp_all [br]
        · rename_i hb; rw [hb]; exact .inr ⟨rfl, h⟩
        · exact h.elim

theorem gval_wanted {X : Xs} {pl : Pl} {w : World} {t : List (Nat × T)} {a : Act} {ops : Array Oper} {o : Oper} {b : Bool} (henv : EnvOk X pl w t a) (h : gval t ops o.guard = some b) : Region.wanted o (yielded ops a.tmps) = b := by
  unfold gval at h
  unfold Region.wanted
  split at h
  · rename_i hg; rw [hg]; exact Option.some.inj h
  · rename_i j wt hg
    rw [hg]
    cases ho : ops[j]? with
    | none => simp [ho] at h
    | some oj =>
      simp only [ho] at h
      cases hd : oj.dst with
      | none => simp [hd] at h
      | some d =>
        simp only [hd] at h
        have hv := henv d
        split at h
        · rename_i c hb
          rw [hb] at hv
          have hy := yielded_eq ho hd hv.lit_inv
          obtain rfl := Option.some.inj h
          simp only [hy]
          cases c <;> cases wt <;> rfl
        · rename_i vs hb
          rw [hb] at hv
          have hy := yielded_none ho hd hv.lit_inv
          obtain rfl := Option.some.inj h
          simp only [hy]
          rfl
        · cases h

/-- What is told of one operation of the text's run. -/
structure Ent where
  t : List (Nat × T)
  m : Mem
  r : Rec
  v : T
  m' : Mem
  go : Bool

def putO (t : List (Nat × T)) (d : Option Nat) (v : T) : List (Nat × T) := match d with
  | none => t
  | some i => putT t i v

def TraceOk (P : Program) (all : Array Oper) (n : Nat) (rl : List Nat) (x : Nat) : List Oper → Nat → List (Nat × T) → Mem → List Rec → List Ent → List (Nat × T) → Mem → Prop
  | [], _, t, m, _, es, tE, mE => es = [] ∧ tE = t ∧ mE = m
  | o :: l, i, t, m, rs, es, tE, mE => ∃ e es', es = e :: es' ∧ e.t = t ∧ e.m = m ∧ e.r.i = i ∧ e.r.mask = maskE rs o.after.toList 0 ∧ e.r.lk = looksL all o ∧ e.r.ds = o.dst.toList ∧
      okRec rs e.r = true ∧ gval t all o.guard = some e.go ∧
      (e.go = true → e.r.fp = fpM t m rl (x + i) o ∧ e.r.wr = wrM P t m rl (x + i) o ∧ LocalM P rl (x + i) o t m e.v e.m') ∧ (e.go = false → e.r.fp = [] ∧ e.r.wr = [] ∧ e.v = .lit undef ∧ e.m' = m) ∧
      (∀ d, o.dst = some d → d < n) ∧ TraceOk P all n rl x l (i + 1) (putO t o.dst e.v) e.m' (e.r :: rs) es' tE mE

theorem putD_O {t : List (Nat × T)} {n : Nat} {d : Option Nat} {v : T} {K : List (Nat × T) → Prop} (h : putD t n d v K) : (∀ i, d = some i → i < n) ∧ K (putO t d v) := by
  rcases putD_elim h with ⟨rfl, h⟩ | ⟨i, rfl, hi, h⟩
  · exact ⟨by simp, h⟩
  · exact ⟨fun j e => by cases e; exact hi, h⟩

theorem opsD_cons {P : Program} {all : Array Oper} {n : Nat} {rl : List Nat} {x : Nat} {o : Oper} {l : List Oper} {i : Nat} {t : List (Nat × T)} {m : Mem} {rs : List Rec} {K : List (Nat × T) → Mem → Prop} :
    opsD P all n rl x (o :: l) i t m rs K = forceNat (maskE rs o.after.toList 0) fun mask => forceL (looksL all o) fun lk => guardA t all o.guard
      (forceNat (x + i) fun id => forceL (fpM t m rl id o) fun fp => forceL (wrM P t m rl id o) fun wr => chk (okRec rs ⟨i, mask, lk, o.dst.toList, fp, wr⟩) <|
        opM P t m rl id o fun v m' => putD t n o.dst v fun t' => opsD P all n rl x l (i + 1) t' m' (⟨i, mask, lk, o.dst.toList, fp, wr⟩ :: rs) K)
      (chk (okRec rs ⟨i, mask, lk, o.dst.toList, [], []⟩) <| putD t n o.dst (.lit undef) fun t' => opsD P all n rl x l (i + 1) t' m (⟨i, mask, lk, o.dst.toList, [], []⟩ :: rs) K) := rfl

theorem opsD_trace {P : Program} {all : Array Oper} {n : Nat} {rl : List Nat} {x : Nat} {K : List (Nat × T) → Mem → Prop} : ∀ (l : List Oper) (i : Nat) (t : List (Nat × T)) (m : Mem) (rs : List Rec), opsD P all n rl x l i t m rs K →
    ∃ es tE mE, TraceOk P all n rl x l i t m rs es tE mE ∧ K tE mE
  | [], i, t, m, rs, h => ⟨[], t, m, ⟨rfl, rfl, rfl⟩, h⟩
  | o :: l, i, t, m, rs, h => by
    rw [opsD_cons, forceNat_eq, forceL_eq] at h
    rcases guardA_gval h with ⟨hg, h⟩ | ⟨hg, h⟩
    · rw [forceNat_eq, forceL_eq, forceL_eq] at h
      obtain ⟨hok, h⟩ := chk_elim h
      obtain ⟨v, m', h, hloc⟩ := opM_local h
      obtain ⟨hd, h⟩ := putD_O h
      obtain ⟨es, tE, mE, htr, hK⟩ := opsD_trace l _ _ _ _ h
      exact ⟨⟨t, m, _, v, m', true⟩ :: es, tE, mE, ⟨_, es, rfl, rfl, rfl, rfl, rfl, rfl, rfl, hok, hg, fun _ => ⟨rfl, rfl, hloc⟩, (fun h => Bool.noConfusion h), hd, htr⟩, hK⟩
    · obtain ⟨hok, h⟩ := chk_elim h
      obtain ⟨hd, h⟩ := putD_O h
      obtain ⟨es, tE, mE, htr, hK⟩ := opsD_trace l _ _ _ _ h
      exact ⟨⟨t, m, _, .lit undef, m, false⟩ :: es, tE, mE, ⟨_, es, rfl, rfl, rfl, rfl, rfl, rfl, rfl, hok, hg, (fun h => Bool.noConfusion h), fun _ => ⟨rfl, rfl, rfl, rfl⟩, hd, htr⟩, hK⟩

/-- All that is known in the midst of a region that draws: `N` tells the ids that are free. -/
structure StG (X0 : Xs) (P0 : Pl) (W : Nat → Prop) (w0 : World) (t : List (Nat × T)) (m : Mem) (n : Nat) (N : Nat → Prop) (X : Xs) (pl : Pl) (a : Act) (w : World) : Prop where
  env : EnvOk X pl w t a
  mem : MRel X W pl w m
  size : a.tmps.size = n
  next : ∀ id, N id → pl id = none
  ext : Ext W w0 w
  mono : XMono X0 X w0 w
  news : ∀ b off, X b off → X0 b off ∨ W b
  fresh : ∀ b, w0.heap.size ≤ b → W b
  calm : a.defers = []
  pm : PMono P0 pl w0 w

section
variable {X0 : Xs} {P0 : Pl} {W : Nat → Prop} {w0 : World} {X : Xs} {pl : Pl} {w w' : World} {t : List (Nat × T)} {m m' : Mem} {n : Nat} {a : Act} {N N' : Nat → Prop}

theorem StG.put (h : StG X0 P0 W w0 t m n N X pl a w) {id : Option Nat} {tv : T} {v : Value} (hs : StepOk X W pl w id m' tv v w') (hx : ∀ i, N' i → N i ∧ id ≠ some i) {d : Option Nat} (hd : ∀ i, d = some i → i < n) :
    ∃ X' pl', StG X0 P0 W w0 (putO t d tv) m' n N' X' pl' (a.put d v) w' := by
  obtain ⟨X', pl', hxm, hp, hn, he, hm, hv, hX⟩ := hs
  have base : EnvOk X' pl' w' t a := fun i => (h.env i).mono hxm hp
  have rest : ∀ (t' : List (Nat × T)) (a' : Act), EnvOk X' pl' w' t' a' → a'.tmps.size = n → a'.defers = [] → StG X0 P0 W w0 t' m' n N' X' pl' a' w' := by
    intro t' a' h1 h2 h3
    refine ⟨h1, hm, h2, fun i hi => hn i (hx i hi).2 (h.next i (hx i hi).1), h.ext.trans he, h.mono.trans hxm, ?_, h.fresh, h3, h.pm.trans hp⟩
    intro b off hb
    rcases hX b off hb with h4 | h4
    · exact h.news b off h4
    · exact .inr h4
  cases d with
  | none => exact ⟨X', pl', rest t _ base h.size h.calm⟩
  | some i =>
    have hi' : i < a.tmps.size := by rw [h.size]; exact hd i rfl
    refine ⟨X', pl', rest _ _ ?_ (by simp [Act.put, h.size]) h.calm⟩
    intro k
    simp only [putO]
    rw [look_putT, getD_put a i v hi']
    split
    · exact hv
    · exact base k
end

section trace
variable {P : Program} {all : Array Oper} {n : Nat} {rl : List Nat} {x : Nat}

def recsOf (es : List Ent) (rs : List Rec) (i : Nat) : List Rec := ((es.take i).map (·.r)).reverse ++ rs
def tAt (es : List Ent) (tE : List (Nat × T)) (i : Nat) : List (Nat × T) := match es[i]? with | some e => e.t | none => tE
def mAt (es : List Ent) (mE : Mem) (i : Nat) : Mem := match es[i]? with | some e => e.m | none => mE

/-- What the trace tells of the operation with number `i`. -/
structure EntOk (P : Program) (all : Array Oper) (n : Nat) (rl : List Nat) (x : Nat) (es : List Ent) (rs : List Rec) (tE : List (Nat × T)) (mE : Mem) (k : Nat) (i : Nat) (o : Oper) (e : Ent) : Prop where
  num : e.r.i = k + i
  mask : e.r.mask = maskE (recsOf es rs i) o.after.toList 0
  lk : e.r.lk = looksL all o
  ds : e.r.ds = o.dst.toList
  ok : okRec (recsOf es rs i) e.r = true
  gv : gval e.t all o.guard = some e.go
  yes : e.go = true → e.r.fp = fpM e.t e.m rl (x + (k + i)) o ∧ e.r.wr = wrM P e.t e.m rl (x + (k + i)) o ∧ LocalM P rl (x + (k + i)) o e.t e.m e.v e.m'
  no : e.go = false → e.r.fp = [] ∧ e.r.wr = [] ∧ e.v = .lit undef ∧ e.m' = e.m
  dst : ∀ d, o.dst = some d → d < n
  tnext : tAt es tE (i + 1) = putO e.t o.dst e.v
  mnext : mAt es mE (i + 1) = e.m'

theorem trace_first {l : List Oper} {k : Nat} {t : List (Nat × T)} {m : Mem} {rs : List Rec} {es : List Ent} {tE : List (Nat × T)} {mE : Mem} (h : TraceOk P all n rl x l k t m rs es tE mE) : tAt es tE 0 = t ∧ mAt es mE 0 = m := by
  cases l with
  | nil => obtain ⟨rfl, rfl, rfl⟩ := h; exact ⟨rfl, rfl⟩
  | cons o l => obtain ⟨e, es', rfl, h1, h2, _⟩ := h; exact ⟨h1, h2⟩

theorem trace_get : ∀ {l : List Oper} {k : Nat} {t : List (Nat × T)} {m : Mem} {rs : List Rec} {es : List Ent} {tE : List (Nat × T)} {mE : Mem}, TraceOk P all n rl x l k t m rs es tE mE →
    es.length = l.length ∧ ∀ (i : Nat) (o : Oper), l[i]? = some o → ∃ e, es[i]? = some e ∧ EntOk P all n rl x es rs tE mE k i o e
  | [], k, t, m, rs, es, tE, mE, h => by obtain ⟨rfl, rfl, rfl⟩ := h; exact ⟨rfl, by simp⟩
  | o :: l, k, t, m, rs, es, tE, mE, h => by
    obtain ⟨e, es', rfl, ht, hm, h1, h2, h3, h4, h5, h6, h7, h8, h9, h10⟩ := h
    subst ht hm
    obtain ⟨hlen, hget⟩ := trace_get h10
    obtain ⟨f1, f2⟩ := trace_first h10
    refine ⟨by simp [hlen], ?_⟩
    intro i o' ho
    cases i with
    | zero =>
      simp only [List.getElem?_cons_zero, Option.some.injEq] at ho
      subst ho
      exact ⟨e, rfl, ⟨h1, h2, h3, h4, h5, h6, h7, h8, h9, f1, f2⟩⟩
    | succ i =>
      obtain ⟨e', he', q⟩ := hget i o' (by simpa using ho)
      have er : recsOf (e :: es') rs (i + 1) = recsOf es' (e.r :: rs) i := by simp [recsOf]
      have ek : k + 1 + i = k + (i + 1) := by omega
      refine ⟨e', by simpa using he', ⟨by rw [q.num, ek], by rw [er]; exact q.mask, q.lk, q.ds, by rw [er]; exact q.ok, q.gv, by rw [← ek]; exact q.yes, q.no, q.dst, ?_, ?_⟩⟩
      · exact q.tnext
      · exact q.mnext
end trace

end Go.AW
