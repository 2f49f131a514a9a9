import Derived.Test.YtmobiphgmdigjaaAw22
/- When one abstract state says no more than another. -/
set_option linter.unusedVariables false
set_option linter.unusedSimpArgs false
namespace Go.AW
open Go

/-- A slot says no more. -/
def leT (new : List (Nat × Nat)) (x : Nat) (a b : T) : Prop :=
  (a = b ∧ ltT x b) ∨ b = .dead ∨ (a = .lit (.slice none 0 0) ∧ ∃ sz, b = .sl none sz []) ∨
    (a = .lit (.slice none 0 0) ∧ ∃ id sz, b = .sl (some id) sz [] ∧ (id, sz) ∈ new) ∨ ∃ tok sz rows, a = .sl tok sz rows ∧ b = .sl none sz rows

def slotsLe (new : List (Nat × Nat)) (x : Nat) (t : List (Nat × T)) : List (Nat × T) → Prop
  | [] => True
  | (i, b) :: r => leT new x (look t i) b ∧ slotsLe new x t r

def blkLt (x : Nat) : Blk → Prop
  | .own _ rows => ∀ row ∈ rows, ∀ c ∈ row, lt0 x c
  | _ => True
def rowLe (new : List (Nat × Nat)) (x : Nat) : List T → List T → Prop
  | [], [] => True
  | a :: r, b :: s => leT new x a b ∧ rowLe new x r s
  | _, _ => False
def rowsLe (new : List (Nat × Nat)) (x : Nat) : List (List T) → List (List T) → Prop
  | [], [] => True
  | a :: r, b :: s => rowLe new x a b ∧ rowsLe new x r s
  | _, _ => False
def memLe (new : List (Nat × Nat)) (x : Nat) (m : Mem) : Mem → Prop
  | [] => True
  | (id, b) :: r => (Nat.blt id x = true ∧ ((m.get id = some b ∧ blkLt x b) ∨ (∃ sz, (id, sz) ∈ new ∧ b = .tok sz 0) ∨ ∃ sz rows0 rows, m.get id = some (.own sz rows0) ∧ b = .own sz rows ∧ rowsLe new x rows0 rows)) ∧ memLe new x m r

section
variable {X : Xs} {W : Nat → Prop} {pl pl' : Pl} {w : World} {t : List (Nat × T)} {m m' : Mem} {x : Nat} {new : List (Nat × Nat)}

theorem brel_untok {tok : Option Nat} {sz : Nat} {rows : List (List T)} {v : Value} (h : BRel X w (.sl tok sz rows) v) (tok' : Option Nat) : BRel X w (.sl tok' sz rows) v := by
  cases h with
  | sl tok sz rows a cap cs h1 h2 h3 h4 => exact .sl tok' _ _ a cap cs h1 h2 h3 h4

theorem slotsLe_look {t' : List (Nat × T)} (h : slotsLe new x t t') (i : Nat) : look t' i = .dead ∨ leT new x (look t i) (look t' i) := by
  induction t' with
  | nil => exact .inl rfl
  | cons p r ih =>
    obtain ⟨k, b⟩ := p
    simp only [look]
    cases e : Nat.beq k i with
    | true => obtain rfl := Nat.eq_of_beq_eq_true e; exact .inr h.1
    | false => exact ih h.2

theorem memLe_get {m' : Mem} (h : memLe new x m m') {id : Nat} {b : Blk} (hg : m'.get id = some b) : Nat.blt id x = true ∧ ((m.get id = some b ∧ blkLt x b) ∨ (∃ sz, (id, sz) ∈ new ∧ b = .tok sz 0) ∨ ∃ sz rows0 rows, m.get id = some (.own sz rows0) ∧ b = .own sz rows ∧ rowsLe new x rows0 rows) := by
  induction m' with
  | nil => simp [Mem.get] at hg
  | cons p r ih =>
    obtain ⟨k, c⟩ := p
    simp only [Mem.get] at hg
    cases e : Nat.beq k id with
    | true =>
      obtain rfl := Nat.eq_of_beq_eq_true e
      simp only [e, cond_true, Option.some.injEq] at hg
      subst hg
      exact h.1
    | false => simp only [e, cond_false] at hg; exact ih h.2 hg

theorem leT_ok (hold : ∀ id, id < x → ∀ l, pl id = some l → pl' id = some l) (hsome : ∀ p ∈ new, pl' p.1 = some (.tokn p.2)) {a b : T} (hle : leT new x a b) {v : Value} (hv : VRel X pl w a v) : VRel X pl' w b v := by
  rcases hle with ⟨he, hlt⟩ | he | ⟨ha, sz, hb⟩ | ⟨ha, id, sz, hb, hmem⟩ | ⟨tok, sz, rows, ha, hb⟩
  · rw [he] at hv; exact ltT_vrel hold hlt hv
  · rw [he]; exact .dead _
  · rw [ha] at hv; rw [hb, hv.lit_inv]
    exact .sl none sz [] _ (.sl none sz [] none 0 (fun _ _ => undef) (Nat.le_refl _) (by simp) (by simp) (by simp)) (by simp)
  · rw [ha] at hv; rw [hb, hv.lit_inv]
    refine .sl _ sz [] _ (.sl _ sz [] none 0 (fun _ _ => undef) (Nat.le_refl _) (by simp) (by simp) (by simp)) ?_
    intro id' e; cases e
    exact ⟨_, hsome _ hmem, rfl, rfl, rfl⟩
  · rw [ha] at hv; rw [hb]
    cases hv with
    | sl _ _ _ v hb2 _ => exact .sl none sz rows _ (brel_untok hb2 none) (by simp)

theorem rowLe_get : ∀ {a b : List T}, rowLe new x a b → a.length = b.length ∧ ∀ (j : Nat) (t : T), b[j]? = some t → ∃ t0, a[j]? = some t0 ∧ leT new x t0 t
  | [], [], _ => ⟨rfl, by simp⟩
  | p :: r, q :: s, h => by
    obtain ⟨h1, h2⟩ := rowLe_get h.2
    refine ⟨by simp [h1], fun j t ht => ?_⟩
    cases j with
    | zero => simp at ht; subst ht; exact ⟨p, rfl, h.1⟩
    | succ j => exact h2 j t (by simpa using ht)
  | [], _ :: _, h => h.elim
  | _ :: _, [], h => h.elim
theorem rowsLe_get : ∀ {a b : List (List T)}, rowsLe new x a b → a.length = b.length ∧ ∀ (j : Nat) (t : List T), b[j]? = some t → ∃ t0, a[j]? = some t0 ∧ rowLe new x t0 t
  | [], [], _ => ⟨rfl, by simp⟩
  | p :: r, q :: s, h => by
    obtain ⟨h1, h2⟩ := rowsLe_get h.2
    refine ⟨by simp [h1], fun j t ht => ?_⟩
    cases j with
    | zero => simp at ht; subst ht; exact ⟨p, rfl, h.1⟩
    | succ j => exact h2 j t (by simpa using ht)
  | [], _ :: _, h => h.elim
  | _ :: _, [], h => h.elim

/-- One state says no more than another. -/
theorem Wk.intro {s s' : S} (new : List (Nat × Nat)) (hn : s.n = s'.n) (hnew : ∀ p ∈ new, s.x ≤ p.1 ∧ p.1 < s'.x ∧ ∀ q ∈ new, q.1 = p.1 → q = p)
    (ht : slotsLe new s'.x s.t s'.t) (hm : memLe new s'.x s.m s'.m) (hk : kOf s'.r = kOf s.r := by rfl) (hkx : kOf s.r ≤ s'.x := by exact Nat.le_of_ble_eq_true rfl) (hkn : kOf s.r ≤ s.x := by exact Nat.le_of_ble_eq_true rfl) : Wk s s' := by
  refine ⟨hk, ?_⟩
  intro X W pl tmps w h
  let pl' : Pl := fun id => if id < s'.x then (match new.find? (fun p => p.1 == id) with | some p => some (.tokn p.2) | none => pl id) else none
  have hsome : ∀ p ∈ new, pl' p.1 = some (.tokn p.2) := by
    intro p hp
    obtain ⟨h1, h2, h3⟩ := hnew p hp
    simp only [pl', if_pos h2]
    cases e : new.find? (fun q => q.1 == p.1) with
    | none => simp only [List.find?_eq_none] at e; exact absurd (by simp) (e p hp)
    | some q =>
      have hq := List.mem_of_find?_eq_some e
      have he := List.find?_some e
      simp only [beq_iff_eq] at he
      rw [h3 q hq he]
  have hold : ∀ id, id < s'.x → ∀ l, pl id = some l → pl' id = some l := by
    intro id hid l hl
    simp only [pl', if_pos hid]
    cases e : new.find? (fun q => q.1 == id) with
    | none => exact hl
    | some q =>
      have hq := List.mem_of_find?_eq_some e
      have he := List.find?_some e
      simp only [beq_iff_eq] at he
      have := h.next id (by have := (hnew q hq).1; omega)
      rw [this] at hl; cases hl
  have hback : ∀ id l, pl' id = some l → pl id = some l ∨ ∃ sz, l = .tokn sz := by
    intro id l hl
    simp only [pl'] at hl
    split at hl
    · split at hl
      · cases hl; exact .inr ⟨_, rfl⟩
      · exact .inl hl
    · cases hl
  have hblk : ∀ id l b, pl' id = some l → l.blk = some b → pl id = some l := by
    intro id l b hl hb
    rcases hback id l hl with h1 | ⟨sz, rfl⟩
    · exact h1
    · cases hb
  refine ⟨pl', ⟨?_, ?_, ?_, ?_⟩, ?_⟩
  · rw [h.size, hn]
  · intro i
    rcases slotsLe_look ht i with hd | hle
    · rw [hd]; exact .dead _
    · have hv := h.vals i
      exact leT_ok hold hsome hle hv
  · refine ⟨?_, ?_, ?_, ?_, h.mem.glob⟩
    · intro id b hg
      obtain ⟨hid', hh⟩ := memLe_get hm hg
      have hid := lt_of_blt hid'
      rcases hh with ⟨hg', hlt⟩ | ⟨sz, hmem, rfl⟩ | ⟨sz, rows0, rows, hg', rfl, hrl⟩
      · obtain ⟨l, hl, hb⟩ := h.mem.blk id b hg'
        refine ⟨l, hold id hid l hl, ?_⟩
        cases b with
        | own sz rows =>
          rcases hb with h1 | ⟨b, e, cs, el, fr, h1, h2, h3, h4⟩
          · exact .inl h1
          · refine .inr ⟨b, e, cs, el, fr, h1, h2, h3, fun i row hr => ⟨(h4 i row hr).1, fun j t hj => ?_⟩⟩
            obtain ⟨v, hv1, hv2⟩ := (h4 i row hr).2 j t hj
            exact ⟨v, hv1, lt0_vrel hold (hlt row (List.mem_of_getElem? hr) t (List.mem_of_getElem? hj)) hv2⟩
        | tok => exact hb
        | iter => exact hb
        | map => exact hb
      · exact ⟨_, hsome _ hmem, .inl ⟨rfl, rfl⟩⟩
      · obtain ⟨l, hl, hb⟩ := h.mem.blk id _ hg'
        obtain ⟨k1, k2⟩ := rowsLe_get hrl
        refine ⟨l, hold id hid l hl, ?_⟩
        rcases hb with ⟨h1, h0⟩ | ⟨b, e, cs, el, fr, h1, h2, h3, h4⟩
        · refine .inl ⟨h1, ?_⟩
          rw [h0] at k1
          exact List.length_eq_zero_iff.1 k1.symm
        · refine .inr ⟨b, e, cs, el, fr, h1, h2, by rw [← k1]; exact h3, fun i row hr => ?_⟩
          obtain ⟨row0, hr0, hle⟩ := k2 i row hr
          obtain ⟨k3, k4⟩ := rowLe_get hle
          refine ⟨by rw [← k3]; exact (h4 i row0 hr0).1, fun j t hj => ?_⟩
          obtain ⟨t0, ht0, hlt⟩ := k4 j t hj
          obtain ⟨v, hv1, hv2⟩ := (h4 i row0 hr0).2 j t0 ht0
          exact ⟨v, hv1, leT_ok hold hsome hlt hv2⟩
    · intro id l b hl hb
      exact h.mem.placed id l b (hblk id l b hl hb) hb
    · intro i j l l' b hi hj hb hb'
      exact h.mem.apart i j l l' b (hblk i l b hi hb) (hblk j l' b hj hb') hb hb'
    · intro b off hx
      refine ⟨(h.mem.xin b off hx).1, fun id l hl => ?_⟩
      rcases hback id l hl with h1 | ⟨sz, rfl⟩
      · exact (h.mem.xin b off hx).2 id l h1
      · trivial
  · intro id hid
    simp only [pl', if_neg (Nat.not_lt.2 hid)]
  · intro id hid
    have h1 : id < s'.x := by omega
    simp only [pl', if_pos h1]
    cases e : new.find? (fun q => q.1 == id) with
    | none => rfl
    | some q =>
      have hq := List.mem_of_find?_eq_some e
      have he := List.find?_some e
      simp only [beq_iff_eq] at he
      have := (hnew q hq).1
      omega

end

theorem leT.same {new : List (Nat × Nat)} {x : Nat} {a b : T} (h : a = b) (hl : ltT x b) : leT new x a b := .inl ⟨h, hl⟩
theorem leT.dead {new : List (Nat × Nat)} {x : Nat} {a : T} : leT new x a .dead := .inr (.inl rfl)

end Go.AW

/- Numbers: the machine's words told by bit vectors. -/
set_option linter.unusedVariables false
set_option linter.unusedSimpArgs false
set_option linter.unusedSectionVars false
namespace Go.AW
open Go

def u8 (x : BitVec 8) : T := .lit (.int .u8 x.toNat)
def u16 (x : BitVec 16) : T := .lit (.int .u16 x.toNat)
def u32 (x : BitVec 32) : T := .lit (.int .u32 x.toNat)
def u64 (x : BitVec 64) : T := .lit (.int .u64 x.toNat)
def i64 (x : Int) : T := .lit (.int .i64 x)
def tb (b : Bool) : T := .lit (.bool b)
def str (s : ByteArray) : T := .lit (.string s)

theorem wrap_nat (k : IntKind) (hk : k.signed = false) (n : Nat) (h : n < 2 ^ k.bits) : k.wrap n = n := by
  simp only [IntKind.wrap, hk, Bool.false_and, Bool.false_eq_true, if_false]
  rw [Int.emod_eq_of_lt (Int.natCast_nonneg n)]
  exact_mod_cast h

theorem wrap_i64 (n : Int) (h : -9223372036854775808 ≤ n) (h' : n ≤ 9223372036854775807) : IntKind.i64.wrap n = n := by
  have e1 : (2 : Int) ^ IntKind.i64.bits = 18446744073709551616 := by decide
  have e2 : (2 : Int) ^ (IntKind.i64.bits - 1) = 9223372036854775808 := by decide
  simp only [IntKind.wrap, e1, e2, show IntKind.i64.signed = true from rfl, Bool.true_and, decide_eq_true_eq]
  split <;> rename_i h0 <;> omega

theorem wrap_mod (k : IntKind) (hk : k.signed = false) (n : Nat) : k.wrap n = ((n % 2 ^ k.bits : Nat) : Int) := by
  simp only [IntKind.wrap, hk, Bool.false_and, Bool.false_eq_true, if_false]
  push_cast
  rfl

theorem ofInt_nat (n : Nat) (x : BitVec n) : BitVec.ofInt n (x.toNat : Int) = x := by simp

theorem wrap_bits (k : IntKind) (hk : k.signed = false) (x : BitVec k.bits) : k.wrap (x.toNat : Int) = x.toNat := wrap_nat k hk _ x.isLt

section
variable (k : IntKind) (hk : k.signed = false) (x y : BitVec k.bits)
include hk
theorem xor_u : bitsI .xor k x.toNat y.toNat = ((x ^^^ y).toNat : Int) := by simp only [bitsI, ofInt_nat]; exact wrap_bits k hk _
theorem and_u : bitsI .and k x.toNat y.toNat = ((x &&& y).toNat : Int) := by simp only [bitsI, ofInt_nat]; exact wrap_bits k hk _
theorem or_u : bitsI .or k x.toNat y.toNat = ((x ||| y).toNat : Int) := by simp only [bitsI, ofInt_nat]; exact wrap_bits k hk _
theorem shr_u (n : Nat) (h : n ≤ k.bits) : (x.toNat : Int).fdiv (2 ^ (min (Int.toNat n) k.bits)) = ((x >>> n).toNat : Int) := by
  rw [Int.toNat_natCast, Nat.min_eq_left h, BitVec.toNat_ushiftRight, Nat.shiftRight_eq_div_pow, Int.fdiv_eq_ediv_of_nonneg _ (by exact_mod_cast Nat.zero_le _)]
  push_cast
  rfl
theorem shl_u (n : Nat) (h : n ≤ k.bits) : k.wrap ((x.toNat : Int) * 2 ^ (min (Int.toNat n) k.bits)) = ((x <<< n).toNat : Int) := by
  rw [Int.toNat_natCast, Nat.min_eq_left h, BitVec.toNat_shiftLeft, Nat.shiftLeft_eq]
  have := wrap_mod k hk (x.toNat * 2 ^ n)
  push_cast at this ⊢
  exact this
theorem mul_u : k.wrap ((x.toNat : Int) * y.toNat) = ((x * y).toNat : Int) := by
  rw [BitVec.toNat_mul]
  have := wrap_mod k hk (x.toNat * y.toNat)
  push_cast at this ⊢
  exact this
theorem add_u : k.wrap ((x.toNat : Int) + y.toNat) = ((x + y).toNat : Int) := by
  rw [BitVec.toNat_add]
  have := wrap_mod k hk (x.toNat + y.toNat)
  push_cast at this ⊢
  exact this
end

theorem xor32 (x y : BitVec 32) : bitsI .xor .u32 x.toNat y.toNat = ((x ^^^ y).toNat : Int) := xor_u .u32 rfl x y
theorem and32 (x y : BitVec 32) : bitsI .and .u32 x.toNat y.toNat = ((x &&& y).toNat : Int) := and_u .u32 rfl x y
theorem or32 (x y : BitVec 32) : bitsI .or .u32 x.toNat y.toNat = ((x ||| y).toNat : Int) := or_u .u32 rfl x y
theorem mul32 (x y : BitVec 32) : IntKind.u32.wrap ((x.toNat : Int) * y.toNat) = ((x * y).toNat : Int) := mul_u .u32 rfl x y
theorem add32 (x y : BitVec 32) : IntKind.u32.wrap ((x.toNat : Int) + y.toNat) = ((x + y).toNat : Int) := add_u .u32 rfl x y
theorem xor8 (x y : BitVec 8) : bitsI .xor .u8 x.toNat y.toNat = ((x ^^^ y).toNat : Int) := xor_u .u8 rfl x y
theorem not32 (x : BitVec 32) : bitsI .xor .u32 (if IntKind.u32.signed = true then -1 else IntKind.u32.max) x.toNat = ((~~~ x).toNat : Int) := by
  have : (if IntKind.u32.signed = true then (-1 : Int) else IntKind.u32.max) = ((BitVec.allOnes 32).toNat : Int) := by decide
  rw [this, xor32, BitVec.allOnes_xor]
theorem toU8 (x : BitVec 32) : IntKind.u8.wrap (x.toNat : Int) = ((x.setWidth 8).toNat : Int) := by
  rw [wrap_mod .u8 rfl, BitVec.toNat_setWidth]
  rfl
theorem toU32 (n : Int) (h : 0 ≤ n) : IntKind.u32.wrap n = ((BitVec.ofNat 32 n.toNat).toNat : Int) := by
  obtain ⟨m, rfl⟩ := Int.eq_ofNat_of_zero_le h
  rw [wrap_mod .u32 rfl, BitVec.toNat_ofNat]
  rfl

theorem spl_set (r : List T) (n : Nat) (x : T) (h : n < r.length) : spl r n [x] = r.set n x := by
  induction r generalizing n with
  | nil => simp at h
  | cons y r ih =>
    cases n with
    | zero => simp [spl]
    | succ n => simp only [spl, List.set_cons_succ]; rw [ih n (by simpa using h)]

end Go.AW

/- Contracts, used at other words of the same arguments. -/
set_option linter.unusedVariables false
set_option linter.unusedSimpArgs false
namespace Go.AW
open Go

def leL : List T → List T → Prop
  | [], [] => True
  | a :: r, b :: s => le1 a b ∧ leL r s
  | _, _ => False

theorem leL_len : ∀ {a b : List T}, leL a b → a.length = b.length
  | [], [], _ => rfl
  | _ :: r, _ :: s, h => by simp [leL_len h.2]
  | [], _ :: _, h => h.elim
  | _ :: _, [], h => h.elim

theorem leL_get : ∀ {a b : List T} (h : leL a b) (i : Nat) (x y : T), a[i]? = some x → b[i]? = some y → le1 x y
  | _ :: _, _ :: _, h, 0, x, y, hx, hy => by simp at hx hy; subst hx hy; exact h.1
  | _ :: r, _ :: s, h, i + 1, x, y, hx, hy => leL_get h.2 i x y (by simpa using hx) (by simpa using hy)
  | [], [], h, i, x, y, hx, hy => by simp at hx

theorem FCv.weak {P : Program} {f : FuncId} {ts ts' : List T} {o : T} (h : FCv P f ts' o) (hl : leL ts ts') : FCv P f ts o := by
  intro X w args hX hG hlen hargs
  have e := leL_len hl
  refine h X w args hX hG (by omega) ?_
  intro i t v ht hv
  have hi : i < ts.length := by have := (List.getElem?_eq_some_iff.1 ht).1; omega
  exact le1_ok (hargs i _ v (List.getElem?_eq_getElem hi) hv) (leL_get hl i _ t (List.getElem?_eq_getElem hi) ht)

/-- Nothing, for no bytes. -/
theorem le1.nil (sz : Nat) : le1 (.lit (.slice none 0 0)) (.sl none sz []) := .inr (.inl ⟨rfl, sz, rfl⟩)
theorem le1.same (t : T) : le1 t t := .inl rfl

/-- Bytes that a string bears are told by their list. -/
theorem str_data (l : List UInt8) : (⟨l.toArray⟩ : ByteArray).data.toList = l := rfl
theorem bytesR_len (l : List UInt8) : (bytesR l).length = l.length := List.length_map _
theorem bytesR_take (l : List UInt8) (n : Nat) : (bytesR l).take n = bytesR (l.take n) := (List.map_take ..).symm
theorem bytesR_drop (l : List UInt8) (n : Nat) : (bytesR l).drop n = bytesR (l.drop n) := (List.map_drop ..).symm
theorem bytesR_append (a b : List UInt8) : bytesR a ++ bytesR b = bytesR (a ++ b) := (List.map_append ..).symm
theorem bytes_get {l : List UInt8} {i : Nat} {c : UInt8} (h : l[i]? = some c) : (bytesR l)[i]? = some [.lit (.int .u8 c.toNat)] := by
  simp only [bytesR, List.getElem?_map, h, Option.map_some]
theorem bytesR_inj {a b : List UInt8} (h : bytesR a = bytesR b) : a = b := by
  induction a generalizing b with
  | nil => cases b <;> simp_all [bytesR]
  | cons x r ih =>
    cases b with
    | nil => simp [bytesR] at h
    | cons y s =>
      simp only [bytesR, List.map_cons, List.cons.injEq] at h
      obtain ⟨⟨h1, _⟩, h2⟩ := h
      injection h1 with h1
      injection h1 with _ h1
      rw [ih h2, UInt8.toNat_inj.1 (Int.ofNat.inj h1)]
theorem ble_of {a b : Nat} (h : a ≤ b) : Nat.ble a b = true := Nat.ble_eq.mpr h
theorem beq_of {a b : Nat} (h : a = b) : Nat.beq a b = true := by subst h; exact Nat.beq_refl a
theorem blt_of {a b : Nat} (h : a < b) : Nat.blt a b = true := Nat.ble_eq.mpr h
theorem spl_all {r xs : List T} (h : xs.length = r.length) : spl r 0 xs = xs := by
  have e : spl r 0 xs = xs ++ r.drop xs.length := by cases r <;> rfl
  rw [e, List.drop_of_length_le (by omega), List.append_nil]
def bodyC (f : Func) : Code := match f.body with | some c => c | none => .skip


section
variable {H : Type} {enc : TypeId × Value → H} {P : Program} {w : World} {t : TypeId}
theorem Rd.u32 (hu : P.underlying t = some (.int .u32)) : Rd enc P w t (fun n : BitVec 32 => [Go.AW.u32 n]) (fun _ => True) := by
  refine (Rd.int hu).conv ?_
  intro n ⟨h1, h2⟩
  have e1 : IntKind.u32.min = 0 := rfl
  have e2 : IntKind.u32.max = 4294967295 := by decide
  rw [e1] at h1
  rw [e2] at h2
  refine ⟨BitVec.ofNat 32 n.toNat, trivial, ?_⟩
  have : ((BitVec.ofNat 32 n.toNat).toNat : Int) = n := by rw [BitVec.toNat_ofNat]; omega
  show [T.lit (.int .u32 ((BitVec.ofNat 32 n.toNat).toNat : Int))] = _
  rw [this]
theorem Rd.i64 (hu : P.underlying t = some (.int .i64)) : Rd enc P w t (fun n : Int => [Go.AW.i64 n]) (fun n => -9223372036854775808 ≤ n ∧ n ≤ 9223372036854775807) := by
  refine (Rd.int hu).conv ?_
  intro n ⟨h1, h2⟩
  have e1 : IntKind.i64.min = -9223372036854775808 := by decide
  have e2 : IntKind.i64.max = 9223372036854775807 := by decide
  rw [e1] at h1
  rw [e2] at h2
  exact ⟨n, ⟨h1, h2⟩, rfl⟩
end

theorem mxI_zero (n : Int) : mxI n 0 = (n.toNat : Int) := by unfold mxI; split <;> omega
theorem bytesR_zeros (k : Nat) : bytesR (List.replicate k 0) = List.replicate k [.lit (.int .u8 0)] := by
  simp only [bytesR, List.map_replicate]; rfl
theorem mnI_min (a b : Nat) : mnI (a : Int) (b : Int) = ((min a b : Nat) : Int) := by unfold mnI; split <;> omega

theorem bytesR_bvN (l : List UInt8) : ∀ row ∈ bytesR l, ∀ c ∈ row, bvN c = true := by
  intro row hr c hc
  obtain ⟨b, _, rfl⟩ := List.mem_map.1 hr
  obtain rfl := List.mem_singleton.1 hc
  rfl
theorem bytesR_blt (x : Nat) (l : List UInt8) : blkLt x (.own 1 (bytesR l)) := by
  intro row hr c hc
  obtain ⟨b, _, rfl⟩ := List.mem_map.1 hr
  obtain rfl := List.mem_singleton.1 hc
  trivial
theorem bytesR_setB (l : List UInt8) (i : Nat) (v : UInt8) : (bytesR l).set i [.lit (.int .u8 v.toNat)] = bytesR (l.set i v) := by
  simp only [bytesR, List.map_set]

end Go.AW
