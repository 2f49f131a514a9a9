/- When one abstract state says no more than another. -/
import Derived.Test.YtciboampiaainaaDoorAw23
set_option linter.unusedVariables false
set_option linter.unusedSimpArgs false
namespace Go.AW
open Go

/-- Ids below a number, in a flat value. -/
def lt0 (x : Nat) : T → Prop
  | .dead | .lit _ | .sl none _ _ | .ifc _ _ | .vp _ _ => True
  | .sl (some id) _ _ | .ptr id _ _ | .sref id _ _ | .itr id | .mref id => Nat.blt id x = true
  | _ => False
def ltT (x : Nat) : T → Prop
  | .agg cs => ∀ c ∈ cs, lt0 x c
  | .tup cs => ∀ c ∈ cs, lt0 x c
  | .clo _ cs => ∀ c ∈ cs, lt0 x c
  | t => lt0 x t

/-- A slot says no more. -/
def leT (new : List (Nat × Nat)) (x : Nat) (a b : T) : Prop :=
  (a = b ∧ ltT x b) ∨ b = .dead ∨ (a = .lit (.slice none 0 0) ∧ ∃ sz, b = .sl none sz []) ∨
    (a = .lit (.slice none 0 0) ∧ ∃ id sz, b = .sl (some id) sz [] ∧ (id, sz) ∈ new) ∨ ∃ tok sz rows, a = .sl tok sz rows ∧ b = .sl none sz rows

def slotsLe (new : List (Nat × Nat)) (x : Nat) (t : List (Nat × T)) : List (Nat × T) → Prop
  | [] => True
  | (i, b) :: r => leT new x (look t i) b ∧ slotsLe new x t r

def blkLt (x : Nat) : Blk → Prop
  | .own _ rows => ∀ row ∈ rows, ∀ c ∈ row, lt0 x c
  | _ => True
def rowLe (new : List (Nat × Nat)) (x : Nat) : List T → List T → Prop
  | [], [] => True
  | a :: r, b :: s => leT new x a b ∧ rowLe new x r s
  | _, _ => False
def rowsLe (new : List (Nat × Nat)) (x : Nat) : List (List T) → List (List T) → Prop
  | [], [] => True
  | a :: r, b :: s => rowLe new x a b ∧ rowsLe new x r s
  | _, _ => False
def memLe (new : List (Nat × Nat)) (x : Nat) (m : Mem) : Mem → Prop
  | [] => True
  | (id, b) :: r => (Nat.blt id x = true ∧ ((m.get id = some b ∧ blkLt x b) ∨ (∃ sz, (id, sz) ∈ new ∧ b = .tok sz 0) ∨ ∃ sz rows0 rows, m.get id = some (.own sz rows0) ∧ b = .own sz rows ∧ rowsLe new x rows0 rows)) ∧ memLe new x m r

section
variable {X : Xs} {W : Nat → Prop} {pl pl' : Pl} {w : World} {t : List (Nat × T)} {m m' : Mem} {x : Nat} {new : List (Nat × Nat)}

theorem lt_of_blt {a b : Nat} (h : Nat.blt a b = true) : a < b := by
  have : a + 1 ≤ b := by simpa [Nat.blt] using h
  exact this
theorem lt0_vrel (h : ∀ id, id < x → ∀ l, pl id = some l → pl' id = some l) {t : T} (ht : lt0 x t) {v : Value} (hv : VRel X pl w t v) : VRel X pl' w t v := by
  cases hv with
  | dead v => exact .dead v
  | lit v => exact .lit v
  | sl tok sz rows v hb htk =>
    refine .sl tok sz rows v hb fun id e => ?_
    subst e
    obtain ⟨l, hl, hm⟩ := htk id rfl
    exact ⟨l, h id (lt_of_blt ht) l hl, hm⟩
  | agg => exact ht.elim
  | tup => exact ht.elim
  | clo => exact ht.elim
  | ifc t x v h => exact .ifc t x v h
  | ptr id row off b sz hp => exact .ptr id row off b sz (hp.imp (h id (lt_of_blt ht) _) (h id (lt_of_blt ht) _))
  | srefn id hp => exact .srefn id (hp.imp (h id (lt_of_blt ht) _) (h id (lt_of_blt ht) _))
  | sref id lo len b sz cap hp h1 h2 =>
    refine .sref id lo len b sz cap (hp.imp (h id (lt_of_blt ht) _) (h id (lt_of_blt ht) _)) h1 fun e => ?_
    rcases hp with hp | hp
    · exact h2 hp
    · rw [h id (lt_of_blt ht) _ hp] at e; cases e
  | srefz id lo b sz a hp => exact .srefz id lo b sz a (hp.imp (h id (lt_of_blt ht) _) (h id (lt_of_blt ht) _))
  | vp row off b o cs h => exact .vp row off b o cs h
  | itr id b hp => exact .itr id b (h id (lt_of_blt ht) _ hp)
  | mref id b hp => exact .mref id b (h id (lt_of_blt ht) _ hp)

theorem ltT_vrel (h : ∀ id, id < x → ∀ l, pl id = some l → pl' id = some l) {t : T} (ht : ltT x t) {v : Value} (hv : VRel X pl w t v) : VRel X pl' w t v := by
  cases t with
  | agg ts =>
    obtain ⟨_, rfl, hl, hh⟩ := hv.agg_inv
    exact .agg ts _ hl fun i t v h1 h2 => lt0_vrel h (ht t (List.mem_of_getElem? h1)) (hh i t v h1 h2)
  | tup ts =>
    cases hv with
    | tup ts vs hl hh => exact .tup ts vs hl fun i t v h1 h2 => lt0_vrel h (ht t (List.mem_of_getElem? h1)) (hh i t v h1 h2)
  | clo f ts =>
    cases hv with
    | clo f ts vs hl hh => exact .clo f ts vs hl fun i t v h1 h2 => lt0_vrel h (ht t (List.mem_of_getElem? h1)) (hh i t v h1 h2)
  | _ => refine lt0_vrel (x := x) h ?_ hv; exact ht

theorem brel_untok {tok : Option Nat} {sz : Nat} {rows : List (List T)} {v : Value} (h : BRel X w (.sl tok sz rows) v) (tok' : Option Nat) : BRel X w (.sl tok' sz rows) v := by
  cases h with
  | sl tok sz rows a cap cs h1 h2 h3 h4 => exact .sl tok' _ _ a cap cs h1 h2 h3 h4

theorem slotsLe_look {t' : List (Nat × T)} (h : slotsLe new x t t') (i : Nat) : look t' i = .dead ∨ leT new x (look t i) (look t' i) := by
  induction t' with
  | nil => exact .inl rfl
  | cons p r ih =>
    obtain ⟨k, b⟩ := p
    simp only [look]
    cases e : Nat.beq k i with
    | true => obtain rfl := Nat.eq_of_beq_eq_true e; exact .inr h.1
    | false => exact ih h.2

theorem memLe_get {m' : Mem} (h : memLe new x m m') {id : Nat} {b : Blk} (hg : m'.get id = some b) : Nat.blt id x = true ∧ ((m.get id = some b ∧ blkLt x b) ∨ (∃ sz, (id, sz) ∈ new ∧ b = .tok sz 0) ∨ ∃ sz rows0 rows, m.get id = some (.own sz rows0) ∧ b = .own sz rows ∧ rowsLe new x rows0 rows) := by
  induction m' with
  | nil => simp [Mem.get] at hg
  | cons p r ih =>
    obtain ⟨k, c⟩ := p
    simp only [Mem.get] at hg
    cases e : Nat.beq k id with
    | true =>
      obtain rfl := Nat.eq_of_beq_eq_true e
      simp only [e, cond_true, Option.some.injEq] at hg
      subst hg
      exact h.1
    | false => simp only [e, cond_false] at hg; exact ih h.2 hg

theorem leT_ok (hold : ∀ id, id < x → ∀ l, pl id = some l → pl' id = some l) (hsome : ∀ p ∈ new, pl' p.1 = some (.tokn p.2)) {a b : T} (hle : leT new x a b) {v : Value} (hv : VRel X pl w a v) : VRel X pl' w b v := by
  rcases hle with ⟨he, hlt⟩ | he | ⟨ha, sz, hb⟩ | ⟨ha, id, sz, hb, hmem⟩ | ⟨tok, sz, rows, ha, hb⟩
  · rw [he] at hv; exact ltT_vrel hold hlt hv
  · rw [he]; exact .dead _
  · rw [ha] at hv; rw [hb, hv.lit_inv]
    exact .sl none sz [] _ (.sl none sz [] none 0 (fun _ _ => undef) (Nat.le_refl _) (by simp) (by simp) (by simp)) (by simp)
  · rw [ha] at hv; rw [hb, hv.lit_inv]
    refine .sl _ sz [] _ (.sl _ sz [] none 0 (fun _ _ => undef) (Nat.le_refl _) (by simp) (by simp) (by simp)) ?_
    intro id' e; cases e
    exact ⟨_, hsome _ hmem, rfl, rfl, rfl⟩
  · rw [ha] at hv; rw [hb]
    cases hv with
    | sl _ _ _ v hb2 _ => exact .sl none sz rows _ (brel_untok hb2 none) (by simp)

theorem rowLe_get : ∀ {a b : List T}, rowLe new x a b → a.length = b.length ∧ ∀ (j : Nat) (t : T), b[j]? = some t → ∃ t0, a[j]? = some t0 ∧ leT new x t0 t
  | [], [], _ => ⟨rfl, by simp⟩
  | p :: r, q :: s, h => by
    obtain ⟨h1, h2⟩ := rowLe_get h.2
    refine ⟨by simp [h1], fun j t ht => ?_⟩
    cases j with
    | zero => simp at ht; subst ht; exact ⟨p, rfl, h.1⟩
    | succ j => exact h2 j t (by simpa using ht)
  | [], _ :: _, h => h.elim
  | _ :: _, [], h => h.elim
theorem rowsLe_get : ∀ {a b : List (List T)}, rowsLe new x a b → a.length = b.length ∧ ∀ (j : Nat) (t : List T), b[j]? = some t → ∃ t0, a[j]? = some t0 ∧ rowLe new x t0 t
  | [], [], _ => ⟨rfl, by simp⟩
  | p :: r, q :: s, h => by
    obtain ⟨h1, h2⟩ := rowsLe_get h.2
    refine ⟨by simp [h1], fun j t ht => ?_⟩
    cases j with
    | zero => simp at ht; subst ht; exact ⟨p, rfl, h.1⟩
    | succ j => exact h2 j t (by simpa using ht)
  | [], _ :: _, h => h.elim
  | _ :: _, [], h => h.elim

/-- One state says no more than another. -/
theorem Wk.intro {s s' : S} (new : List (Nat × Nat)) (hn : s.n = s'.n) (hnew : ∀ p ∈ new, s.x ≤ p.1 ∧ p.1 < s'.x ∧ ∀ q ∈ new, q.1 = p.1 → q = p)
    (ht : slotsLe new s'.x s.t s'.t) (hm : memLe new s'.x s.m s'.m) (hk : kOf s'.r = kOf s.r := by rfl) (hkx : kOf s.r ≤ s'.x := by exact Nat.le_of_ble_eq_true rfl) (hkn : kOf s.r ≤ s.x := by exact Nat.le_of_ble_eq_true rfl) : Wk s s' := by
  refine ⟨hk, ?_⟩
  intro X W pl tmps w h
  let pl' : Pl := fun id => if id < s'.x then (match new.find? (fun p => p.1 == id) with | some p => some (.tokn p.2) | none => pl id) else none
  have hsome : ∀ p ∈ new, pl' p.1 = some (.tokn p.2) := by
    intro p hp
    obtain ⟨h1, h2, h3⟩ := hnew p hp
    simp only [pl', if_pos h2]
    cases e : new.find? (fun q => q.1 == p.1) with
    | none => simp only [List.find?_eq_none] at e; exact absurd (by simp) (e p hp)
    | some q =>
      have hq := List.mem_of_find?_eq_some e
      have he := List.find?_some e
      simp only [beq_iff_eq] at he
      rw [h3 q hq he]
  have hold : ∀ id, id < s'.x → ∀ l, pl id = some l → pl' id = some l := by
    intro id hid l hl
    simp only [pl', if_pos hid]
    cases e : new.find? (fun q => q.1 == id) with
    | none => exact hl
    | some q =>
      have hq := List.mem_of_find?_eq_some e
      have he := List.find?_some e
      simp only [beq_iff_eq] at he
      have := h.next id (by have := (hnew q hq).1; omega)
      rw [this] at hl; cases hl
  have hback : ∀ id l, pl' id = some l → pl id = some l ∨ ∃ sz, l = .tokn sz := by
    intro id l hl
    simp only [pl'] at hl
    split at hl
    · split at hl
      · cases hl; exact .inr ⟨_, rfl⟩
      · exact .inl hl
    · cases hl
  have hblk : ∀ id l b, pl' id = some l → l.blk = some b → pl id = some l := by
    intro id l b hl hb
    rcases hback id l hl with h1 | ⟨sz, rfl⟩
    · exact h1
    · cases hb
  refine ⟨pl', ⟨?_, ?_, ?_, ?_⟩, ?_⟩
  · rw [h.size, hn]
  · intro i
    rcases slotsLe_look ht i with hd | hle
    · rw [hd]; exact .dead _
    · have hv := h.vals i
      exact leT_ok hold hsome hle hv
  · refine ⟨?_, ?_, ?_, ?_, h.mem.glob⟩
    · intro id b hg
      obtain ⟨hid', hh⟩ := memLe_get hm hg
      have hid := lt_of_blt hid'
      rcases hh with ⟨hg', hlt⟩ | ⟨sz, hmem, rfl⟩ | ⟨sz, rows0, rows, hg', rfl, hrl⟩
      · obtain ⟨l, hl, hb⟩ := h.mem.blk id b hg'
        refine ⟨l, hold id hid l hl, ?_⟩
        cases b with
        | own sz rows =>
          rcases hb with h1 | ⟨b, e, cs, el, fr, h1, h2, h3, h4⟩
          · exact .inl h1
          · refine .inr ⟨b, e, cs, el, fr, h1, h2, h3, fun i row hr => ⟨(h4 i row hr).1, fun j t hj => ?_⟩⟩
            obtain ⟨v, hv1, hv2⟩ := (h4 i row hr).2 j t hj
            exact ⟨v, hv1, lt0_vrel hold (hlt row (List.mem_of_getElem? hr) t (List.mem_of_getElem? hj)) hv2⟩
        | tok => exact hb
        | iter => exact hb
      · exact ⟨_, hsome _ hmem, .inl ⟨rfl, rfl⟩⟩
      · obtain ⟨l, hl, hb⟩ := h.mem.blk id _ hg'
        obtain ⟨k1, k2⟩ := rowsLe_get hrl
        refine ⟨l, hold id hid l hl, ?_⟩
        rcases hb with ⟨h1, h0⟩ | ⟨b, e, cs, el, fr, h1, h2, h3, h4⟩
        · refine .inl ⟨h1, ?_⟩
          rw [h0] at k1
          exact List.length_eq_zero_iff.1 k1.symm
        · refine .inr ⟨b, e, cs, el, fr, h1, h2, by rw [← k1]; exact h3, fun i row hr => ?_⟩
          obtain ⟨row0, hr0, hle⟩ := k2 i row hr
          obtain ⟨k3, k4⟩ := rowLe_get hle
          refine ⟨by rw [← k3]; exact (h4 i row0 hr0).1, fun j t hj => ?_⟩
          obtain ⟨t0, ht0, hlt⟩ := k4 j t hj
          obtain ⟨v, hv1, hv2⟩ := (h4 i row0 hr0).2 j t0 ht0
          exact ⟨v, hv1, leT_ok hold hsome hlt hv2⟩
    · intro id l b hl hb
      exact h.mem.placed id l b (hblk id l b hl hb) hb
    · intro i j l l' b hi hj hb hb'
      exact h.mem.apart i j l l' b (hblk i l b hi hb) (hblk j l' b hj hb') hb hb'
    · intro b off hx
      refine ⟨(h.mem.xin b off hx).1, fun id l hl => ?_⟩
      rcases hback id l hl with h1 | ⟨sz, rfl⟩
      · exact (h.mem.xin b off hx).2 id l h1
      · trivial
  · intro id hid
    simp only [pl', if_neg (Nat.not_lt.2 hid)]
  · intro id hid
    have h1 : id < s'.x := by omega
    simp only [pl', if_pos h1]
    cases e : new.find? (fun q => q.1 == id) with
    | none => rfl
    | some q =>
      have hq := List.mem_of_find?_eq_some e
      have he := List.find?_some e
      simp only [beq_iff_eq] at he
      have := (hnew q hq).1
      omega

end

theorem leT.same {new : List (Nat × Nat)} {x : Nat} {a b : T} (h : a = b) (hl : ltT x b) : leT new x a b := .inl ⟨h, hl⟩
theorem leT.dead {new : List (Nat × Nat)} {x : Nat} {a : T} : leT new x a .dead := .inr (.inl rfl)

end Go.AW
