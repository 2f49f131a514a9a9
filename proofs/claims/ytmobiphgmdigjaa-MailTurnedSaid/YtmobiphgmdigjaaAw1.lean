import Derived.WalkKit
import Derived.Test.YtmobiphgmdigjaaAw0
import Derived.KernelRfl
/- Abstract values and the relation between them and the machine's values and memory. -/
set_option linter.unusedVariables false
set_option linter.unusedSimpArgs false
namespace Go.AW
open Go

/-- Abstract values: data, with small numbers for what the activation owns. -/
inductive T where
  | dead
  | lit (v : Value)
  | sl (tok : Option Nat) (sz : Nat) (rows : List (List T))
  | agg (cells : List T)
  | tup (vs : List T)
  | clo (f : FuncId) (caps : List T)
  | ifc (t : TypeId) (v : T)
  | ptr (id row off : Nat)
  | sref (id lo len : Nat)
  | vp (row : List T) (off : Nat)
  | itr (id : Nat)
  | mref (id : Nat)

instance : Inhabited T := ⟨.dead⟩

inductive Blk where
  | own (sz : Nat) (rows : List (List T))
  | tok (sz n : Nat)
  | iter (s : ByteArray) (pos : Nat)
  | map (kv : List (Value × Value))

/-- Where an id lies in memory. -/
inductive Loc where
  | gone
  | ownn
  | tokn (sz : Nat)
  | own (b sz : Nat)
  | tok (b sz n cap : Nat)
  | obj (b : Nat)

def Loc.blk : Loc → Option Nat
  | .own b _ => some b
  | .tok b _ _ _ => some b
  | .obj b => some b
  | _ => none

/-- Cells that a placement leaves alone. -/
def Loc.free (b off : Nat) : Loc → Prop
  | .own b' _ => b ≠ b'
  | .tok b' sz n _ => b = b' → off < n * sz
  | .obj b' => b ≠ b'
  | _ => True

abbrev Pl := Nat → Option Loc
abbrev Xs := Nat → Nat → Prop

/-- By-value data: read through cells that stay. -/
inductive BRel (X : Xs) (w : World) : T → Value → Prop where
  | lit (v : Value) : BRel X w (.lit v) v
  | sl (tok : Option Nat) (sz : Nat) (rows : List (List T)) (a : Option Addr) (cap : Nat) (cs : Nat → Nat → Value)
      (hcap : rows.length ≤ cap)
      (hsz : ∀ (i : Nat) (row : List T), rows[i]? = some row → row.length = sz)
      (ha : ∀ (i : Nat) (row : List T), rows[i]? = some row → ∃ b o, a = some ⟨b, o, none⟩ ∧ ∀ j, j < sz → X b (o + i * sz + j) ∧ w.cell? ⟨b, o + i * sz + j, none⟩ = some (cs i j) ∧ (cs i j).oneCell' = true)
      (hc : ∀ (i : Nat) (row : List T) (j : Nat) (t : T), rows[i]? = some row → row[j]? = some t → BRel X w t (cs i j)) :
      BRel X w (.sl tok sz rows) (.slice a rows.length cap)
  | agg (ts : List T) (vs : List Value) (hl : ts.length = vs.length) (h : ∀ (i : Nat) (t : T) (v : Value), ts[i]? = some t → vs[i]? = some v → BRel X w t v) :
      BRel X w (.agg ts) (.agg vs.toArray)
  | ifc (t : TypeId) (x : T) (v : Value) (h : BRel X w x v) : BRel X w (.ifc t x) (.iface t v)

/-- What a token tells of a slice value that bears it. -/
def TokOk (pl : Pl) (sz : Nat) (rows : List (List T)) (v : Value) (id : Nat) : Prop :=
  ∃ l, pl id = some l ∧ match l with
    | .gone => True
    | .tokn sz' => sz' = sz ∧ rows = [] ∧ v = .slice none 0 0
    | .tok b sz' n cap => sz' = sz ∧ rows.length ≤ n ∧ (rows.length = n → v = .slice (some ⟨b, 0, none⟩) n cap)
    | _ => False

def roomy (w : World) (b n : Nat) : Prop := ∃ cs e fr, w.heap[b]? = some (.cells cs e fr) ∧ n ≤ cs.size

inductive VRel (X : Xs) (pl : Pl) (w : World) : T → Value → Prop where
  | dead (v : Value) : VRel X pl w .dead v
  | lit (v : Value) : VRel X pl w (.lit v) v
  | sl (tok : Option Nat) (sz : Nat) (rows : List (List T)) (v : Value) (h : BRel X w (.sl tok sz rows) v) (ht : ∀ id, tok = some id → TokOk pl sz rows v id) :
      VRel X pl w (.sl tok sz rows) v
  | agg (ts : List T) (vs : List Value) (hl : ts.length = vs.length) (h : ∀ (i : Nat) (t : T) (v : Value), ts[i]? = some t → vs[i]? = some v → VRel X pl w t v) :
      VRel X pl w (.agg ts) (.agg vs.toArray)
  | tup (ts : List T) (vs : List Value) (hl : ts.length = vs.length) (h : ∀ (i : Nat) (t : T) (v : Value), ts[i]? = some t → vs[i]? = some v → VRel X pl w t v) :
      VRel X pl w (.tup ts) (.tuple vs.toArray)
  | clo (f : FuncId) (ts : List T) (vs : List Value) (hl : ts.length = vs.length) (h : ∀ (i : Nat) (t : T) (v : Value), ts[i]? = some t → vs[i]? = some v → VRel X pl w t v) :
      VRel X pl w (.clo f ts) (.func (.func f) #[] vs.toArray)
  | ifc (t : TypeId) (x : T) (v : Value) (h : BRel X w x v) : VRel X pl w (.ifc t x) (.iface t v)
  | ptr (id row off b sz : Nat) (h : pl id = some (.own b sz) ∨ pl id = some .gone) : VRel X pl w (.ptr id row off) (.pointer (some ⟨b, row * sz + off, none⟩))
  | srefn (id : Nat) (h : pl id = some .ownn ∨ pl id = some .gone) : VRel X pl w (.sref id 0 0) (.slice none 0 0)
  | sref (id lo len b sz cap : Nat) (h : pl id = some (.own b sz) ∨ pl id = some .gone) (hl : len ≤ cap) (hr : pl id = some (.own b sz) → roomy w b ((lo + cap) * sz)) :
      VRel X pl w (.sref id lo len) (.slice (some ⟨b, lo * sz, none⟩) len cap)
  | srefz (id lo b sz : Nat) (a : Option Addr) (h : pl id = some (.own b sz) ∨ pl id = some .gone) : VRel X pl w (.sref id lo 0) (.slice a 0 0)
  | vp (row : List T) (off b o : Nat) (cs : Nat → Value)
      (h : ∀ (j : Nat) (t : T), row[j]? = some t → X b (o + j) ∧ w.cell? ⟨b, o + j, none⟩ = some (cs j) ∧ BRel X w t (cs j)) :
      VRel X pl w (.vp row off) (.pointer (some ⟨b, o + off, none⟩))
  | itr (id b : Nat) (h : pl id = some (.obj b)) : VRel X pl w (.itr id) (.pointer (some ⟨b, 0, none⟩))
  | mref (id b : Nat) (h : pl id = some (.obj b)) : VRel X pl w (.mref id) (.map (some b))

/-- The stable cells stay. -/
def XMono (X X' : Xs) (w w' : World) : Prop := ∀ b off, X b off → X' b off ∧ w'.cell? ⟨b, off, none⟩ = w.cell? ⟨b, off, none⟩

theorem XMono.refl (X : Xs) (w : World) : XMono X X w w := fun _ _ h => ⟨h, rfl⟩
theorem XMono.trans {X X' X'' : Xs} {w w' w'' : World} (h : XMono X X' w w') (h' : XMono X' X'' w' w'') : XMono X X'' w w'' :=
  fun b off hx => ⟨(h' b off (h b off hx).1).1, (h' b off (h b off hx).1).2.trans (h b off hx).2⟩

theorem BRel.mono {X X' : Xs} {w w' : World} (hx : XMono X X' w w') {t : T} {v : Value} (h : BRel X w t v) : BRel X' w' t v := by
  induction h with
  | lit v => exact .lit v
  | sl tok sz rows a cap cs hcap hsz ha hc ih =>
    refine .sl tok sz rows a cap cs hcap hsz ?_ ih
    intro i row hr
    obtain ⟨b, o, e, hj⟩ := ha i row hr
    exact ⟨b, o, e, fun j hjs => ⟨(hx _ _ (hj j hjs).1).1, (hx _ _ (hj j hjs).1).2.trans (hj j hjs).2.1, (hj j hjs).2.2⟩⟩
  | agg ts vs hl h ih => exact .agg ts vs hl ih
  | ifc t x v h ih => exact .ifc t x v ih

/-- How placements may go on: what a value says of an id stays true. -/
def Loc.le : Loc → Loc → Prop
  | .gone, l => l = .gone
  | .ownn, l => l = .ownn ∨ l = .gone
  | .tokn sz, l => l = .gone ∨ l = .tokn sz ∨ ∃ b n cap, l = .tok b sz n cap ∧ 0 < n
  | .own b sz, l => l = .own b sz ∨ l = .gone
  | .tok b sz n cap, l => l = .gone ∨ l = .tok b sz n cap ∨ ∃ b' n' cap', l = .tok b' sz n' cap' ∧ n < n'
  | .obj b, l => l = .obj b

theorem Loc.le_refl (l : Loc) : l.le l := by cases l <;> simp [Loc.le]

theorem Loc.le_trans {a b c : Loc} (h : a.le b) (h' : b.le c) : a.le c := by
  cases a <;> simp only [Loc.le] at h
  case gone => subst h; exact h'
  case ownn =>
    rcases h with rfl | rfl
    · exact h'
    · simp only [Loc.le] at h'; subst h'; exact .inr rfl
  case own =>
    rcases h with rfl | rfl
    · exact h'
    · simp only [Loc.le] at h'; subst h'; exact .inr rfl
  case obj => subst h; exact h'
  case tokn sz =>
    rcases h with rfl | rfl | ⟨b', n, cap, rfl, hn⟩
    · simp only [Loc.le] at h'; subst h'; exact .inl rfl
    · exact h'
    · simp only [Loc.le] at h'
      rcases h' with rfl | rfl | ⟨b2, n2, cap2, rfl, hlt⟩
      · exact .inl rfl
      · exact .inr (.inr ⟨_, _, _, rfl, hn⟩)
      · exact .inr (.inr ⟨_, _, _, rfl, by omega⟩)
  case tok b0 sz n cap =>
    rcases h with rfl | rfl | ⟨b', n', cap', rfl, hn⟩
    · simp only [Loc.le] at h'; subst h'; exact .inl rfl
    · exact h'
    · simp only [Loc.le] at h'
      rcases h' with rfl | rfl | ⟨b2, n2, cap2, rfl, hlt⟩
      · exact .inl rfl
      · exact .inr (.inr ⟨_, _, _, rfl, hn⟩)
      · exact .inr (.inr ⟨_, _, _, rfl, by omega⟩)

def PMono (pl pl' : Pl) (w w' : World) : Prop :=
  ∀ id l, pl id = some l → (∃ l', pl' id = some l' ∧ l.le l') ∧ ∀ b sz, l = .own b sz → pl' id = some (.own b sz) → ∀ n, roomy w b n → roomy w' b n

theorem PMono.refl (pl : Pl) (w : World) : PMono pl pl w w := fun _ l h => ⟨⟨l, h, l.le_refl⟩, fun _ _ _ _ _ h => h⟩

theorem PMono.trans {pl pl' pl'' : Pl} {w w' w'' : World} (h : PMono pl pl' w w') (h' : PMono pl' pl'' w' w'') : PMono pl pl'' w w'' := by
  intro id l hl
  obtain ⟨⟨l', hl', hle⟩, hr⟩ := h id l hl
  obtain ⟨⟨l'', hl'', hle'⟩, hr'⟩ := h' id l' hl'
  refine ⟨⟨l'', hl'', Loc.le_trans hle hle'⟩, ?_⟩
  intro b sz e e2 n hn
  subst e
  simp only [Loc.le] at hle
  rcases hle with rfl | rfl
  · exact hr' b sz rfl e2 n (hr b sz rfl hl' n hn)
  · simp only [Loc.le] at hle'
    subst hle'
    rw [hl''] at e2; cases e2

theorem TokOk.mono {pl pl' : Pl} {w w' : World} (hp : PMono pl pl' w w') {sz : Nat} {rows : List (List T)} {v : Value} {id : Nat} (h : TokOk pl sz rows v id) : TokOk pl' sz rows v id := by
  obtain ⟨l, hl, hm⟩ := h
  obtain ⟨⟨l', hl', hle⟩, _⟩ := hp id l hl
  refine ⟨l', hl', ?_⟩
  cases l with
  | gone => simp only [Loc.le] at hle; subst hle; trivial
  | ownn => exact hm.elim
  | own => exact hm.elim
  | obj => exact hm.elim
  | tokn sz' =>
    obtain ⟨rfl, rfl, rfl⟩ := hm
    simp only [Loc.le] at hle
    rcases hle with rfl | rfl | ⟨b, n, cap, rfl, hn⟩
    · trivial
    · exact ⟨rfl, rfl, rfl⟩
    · exact ⟨rfl, Nat.zero_le _, fun e => by simp at e; omega⟩
  | tok b sz' n cap =>
    obtain ⟨rfl, hle', hv⟩ := hm
    simp only [Loc.le] at hle
    rcases hle with rfl | rfl | ⟨b', n', cap', rfl, hn⟩
    · trivial
    · exact ⟨rfl, hle', hv⟩
    · exact ⟨rfl, by omega, fun e => by omega⟩

theorem own_gone {pl pl' : Pl} {w w' : World} (hp : PMono pl pl' w w') {id b sz : Nat} (h : pl id = some (.own b sz) ∨ pl id = some .gone) : pl' id = some (.own b sz) ∨ pl' id = some .gone := by
  rcases h with h | h
  · obtain ⟨⟨l', hl', hle⟩, _⟩ := hp id _ h
    simp only [Loc.le] at hle
    rcases hle with rfl | rfl
    · exact .inl hl'
    · exact .inr hl'
  · obtain ⟨⟨l', hl', hle⟩, _⟩ := hp id _ h
    simp only [Loc.le] at hle
    subst hle; exact .inr hl'

theorem VRel.mono {X X' : Xs} {pl pl' : Pl} {w w' : World} (hx : XMono X X' w w') (hp : PMono pl pl' w w') {t : T} {v : Value} (h : VRel X pl w t v) : VRel X' pl' w' t v := by
  induction h with
  | dead v => exact .dead v
  | lit v => exact .lit v
  | sl tok sz rows v h ht => exact .sl tok sz rows v (h.mono hx) fun id e => (ht id e).mono hp
  | agg ts vs hl h ih => exact .agg ts vs hl ih
  | tup ts vs hl h ih => exact .tup ts vs hl ih
  | clo f ts vs hl h ih => exact .clo f ts vs hl ih
  | ifc t x v h => exact .ifc t x v (h.mono hx)
  | ptr id row off b sz h => exact .ptr id row off b sz (own_gone hp h)
  | srefn id h =>
    refine .srefn id ?_
    rcases h with h | h
    · obtain ⟨⟨l', hl', hle⟩, _⟩ := hp id _ h
      simp only [Loc.le] at hle
      rcases hle with rfl | rfl
      · exact .inl hl'
      · exact .inr hl'
    · obtain ⟨⟨l', hl', hle⟩, _⟩ := hp id _ h
      simp only [Loc.le] at hle
      subst hle; exact .inr hl'
  | sref id lo len b sz cap h hl hr =>
    refine .sref id lo len b sz cap (own_gone hp h) hl fun e => ?_
    rcases h with h | h
    · exact (hp id _ h).2 b sz rfl e _ (hr h)
    · obtain ⟨⟨l', hl', hle⟩, _⟩ := hp id _ h
      simp only [Loc.le] at hle
      subst hle; rw [hl'] at e; cases e
  | srefz id lo b sz a h => exact .srefz id lo b sz a (own_gone hp h)
  | vp row off b o cs h =>
    exact .vp row off b o cs fun j t ht => ⟨(hx _ _ (h j t ht).1).1, (hx _ _ (h j t ht).1).2.trans (h j t ht).2.1, (h j t ht).2.2.mono hx⟩
  | itr id b h =>
    obtain ⟨⟨l', hl', hle⟩, _⟩ := hp id _ h
    simp only [Loc.le] at hle; subst hle
    exact .itr id b hl'
  | mref id b h =>
    obtain ⟨⟨l', hl', hle⟩, _⟩ := hp id _ h
    simp only [Loc.le] at hle; subst hle
    exact .mref id b hl'

abbrev Mem := List (Nat × Blk)
def Mem.get : Mem → Nat → Option Blk
  | [], _ => none
  | (k, b) :: r, i => bif Nat.beq k i then some b else Mem.get r i
def Mem.put : Mem → Nat → Blk → Mem
  | [], i, b => [(i, b)]
  | (k, c) :: r, i, b => bif Nat.beq k i then (i, b) :: r else (k, c) :: Mem.put r i b

def Mem.del : Mem → Nat → Mem
  | [], _ => []
  | (k, c) :: r, i => bif Nat.beq k i then Mem.del r i else (k, c) :: Mem.del r i

theorem beq_ne {i j : Nat} (h : i ≠ j) : Nat.beq i j = false := by
  cases e : Nat.beq i j with
  | false => rfl
  | true => exact absurd (Nat.eq_of_beq_eq_true e) h

theorem Mem.get_put_same (m : Mem) (i : Nat) (b : Blk) : (m.put i b).get i = some b := by
  induction m with
  | nil => simp [Mem.put, Mem.get]
  | cons p r ih =>
    obtain ⟨k, c⟩ := p
    cases h : Nat.beq k i
    · simp [Mem.put, Mem.get, h, ih]
    · simp [Mem.put, Mem.get, h]

theorem Mem.get_put_other (m : Mem) (i j : Nat) (b : Blk) (h : i ≠ j) : (m.put i b).get j = m.get j := by
  induction m with
  | nil => have hij := beq_ne h
           simp [Mem.put, Mem.get, hij]
  | cons p r ih =>
    obtain ⟨k, c⟩ := p
    cases hk : Nat.beq k i
    · simp [Mem.put, Mem.get, hk, ih]
    · have : k = i := Nat.eq_of_beq_eq_true hk
      subst this
      have hkj := beq_ne h
      simp [Mem.put, Mem.get, hk, hkj]

theorem Mem.get_del_same (m : Mem) (i : Nat) : (m.del i).get i = none := by
  induction m with
  | nil => rfl
  | cons p r ih =>
    obtain ⟨k, c⟩ := p
    cases h : Nat.beq k i
    · simp [Mem.del, Mem.get, h, ih]
    · simp [Mem.del, h, ih]
theorem Mem.get_del_other (m : Mem) (i j : Nat) (h : i ≠ j) : (m.del i).get j = m.get j := by
  induction m with
  | nil => rfl
  | cons p r ih =>
    obtain ⟨k, c⟩ := p
    cases hk : Nat.beq k i
    · simp [Mem.del, Mem.get, hk, ih]
    · have : k = i := Nat.eq_of_beq_eq_true hk
      subst this
      have hkj := beq_ne h
      simp [Mem.del, Mem.get, hk, hkj, ih]

def unfrozen (w : World) (b n : Nat) : Prop := (∀ off, off < n → w.frozen? ⟨b, off, none⟩ = false) ∧ ∀ cs e lo hi, w.heap[b]? = some (.cells cs e (lo, hi)) → lo ≤ hi

/-- A map's entries, as they were laid. -/
def MapOk (es : Array MapEntry) (ck : Nat) (kv : List (Value × Value)) : Prop :=
  es.toList.map (fun e => (e.key, e.val)) = kv ∧ es.toList.Pairwise (fun a b => a.born < b.born) ∧ ∀ e ∈ es.toList, e.born < ck

/-- What memory holds of an id's block. -/
def BlkOk (X : Xs) (pl : Pl) (w : World) (l : Loc) : Blk → Prop
  | .own sz rows => (l = .ownn ∧ rows = []) ∨ ∃ b, l = .own b sz ∧ ∃ cs e fr, w.heap[b]? = some (.cells cs e fr) ∧ unfrozen w b cs.size ∧ rows.length * sz ≤ cs.size ∧
      ∀ (i : Nat) (row : List T), rows[i]? = some row → row.length = sz ∧ ∀ (j : Nat) (t : T), row[j]? = some t → ∃ v, cs[i * sz + j]? = some v ∧ VRel X pl w t v
  | .tok sz n => (l = .tokn sz ∧ n = 0) ∨ ∃ b cap, l = .tok b sz n cap ∧ n ≤ cap ∧ ∃ cs e fr, w.heap[b]? = some (.cells cs e fr) ∧ unfrozen w b cs.size ∧ cs.size = cap * sz
  | .iter s pos => ∃ b, l = .obj b ∧ w.heap[b]? = some (.stringIter s pos)
  | .map kv => ∃ b, l = .obj b ∧ ∃ es ck, w.heap[b]? = some (.map es ck) ∧ MapOk es ck kv

/-- What is laid stands where it is laid. -/
def GOk (X : Xs) (w : World) : Prop := ∀ b off v, gtab b off = some v → X b off ∧ w.cell? ⟨b, off, none⟩ = some v
theorem GOk.mono {X X' : Xs} {w w' : World} (h : GOk X w) (hx : XMono X X' w w') : GOk X' w' :=
  fun b off v hg => ⟨(hx b off (h b off v hg).1).1, ((hx b off (h b off v hg).1).2).trans (h b off v hg).2⟩

structure MRel (X : Xs) (W : Nat → Prop) (pl : Pl) (w : World) (m : Mem) : Prop where
  blk : ∀ id b, m.get id = some b → ∃ l, pl id = some l ∧ BlkOk X pl w l b
  placed : ∀ id l b, pl id = some l → l.blk = some b → W b ∧ b < w.heap.size
  apart : ∀ i j l l' b, pl i = some l → pl j = some l' → l.blk = some b → l'.blk = some b → i = j
  xin : ∀ b off, X b off → b < w.heap.size ∧ ∀ id l, pl id = some l → l.free b off
  glob : GOk X w

/-- What a call leaves alone. -/
structure Ext (W : Nat → Prop) (w w' : World) : Prop where
  size : w.heap.size ≤ w'.heap.size
  os : w'.os = w.os
  output : w'.output = w.output
  tape : w'.tape = w.tape
  keep : ∀ b, b < w.heap.size → ¬ W b → w'.heap[b]? = w.heap[b]?

theorem Ext.refl (W : Nat → Prop) (w : World) : Ext W w w := ⟨Nat.le_refl _, rfl, rfl, rfl, fun _ _ _ => rfl⟩
theorem Ext.trans {W : Nat → Prop} {w w' w'' : World} (h : Ext W w w') (h' : Ext W w' w'') : Ext W w w'' :=
  ⟨Nat.le_trans h.size h'.size, h'.os.trans h.os, h'.output.trans h.output, h'.tape.trans h.tape,
    fun b hb hw => (h'.keep b (Nat.lt_of_lt_of_le hb h.size) hw).trans (h.keep b hb hw)⟩
theorem Ext.weaken {W W' : Nat → Prop} {w w' : World} (h : Ext W w w') (hw : ∀ b, b < w.heap.size → W b → W' b) : Ext W' w w' :=
  ⟨h.size, h.os, h.output, h.tape, fun b hb hn => h.keep b hb fun hb' => hn (hw b hb hb')⟩

end Go.AW
