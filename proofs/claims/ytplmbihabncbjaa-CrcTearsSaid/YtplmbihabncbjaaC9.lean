/- The checksum of bits. -/
import Derived.Test.YtplmbihabncbjaaC8
set_option linter.unusedVariables false
set_option linter.unusedSimpArgs false
namespace Go.AW.Crc
open Go Go.AW Go.Proofs

def bitAt (l : List UInt8) (j : Nat) : Bool := (l.getD (j / 8) 0).toBitVec.getLsbD (j % 8)
def b1 (b : Bool) : BitVec 32 := if b then 1#32 else 0#32
def runB (s : BitVec 32) (f : Nat → Bool) : Nat → BitVec 32
  | 0 => s
  | n + 1 => bit (runB s f n ^^^ b1 (f n))

theorem and1_b1 (y : BitVec 32) : y &&& 1#32 = b1 (y.getLsbD 0) := by
  rcases and1 y with e | e
  · have : y.getLsbD 0 = false := by
      have h := congrArg (fun z : BitVec 32 => z.getLsbD 0) e
      simpa using h
    rw [e, this]; rfl
  · have : y.getLsbD 0 = true := by
      have h := congrArg (fun z : BitVec 32 => z.getLsbD 0) e
      simpa using h
    rw [e, this]; rfl

theorem runB_cong {s : BitVec 32} {f g : Nat → Bool} : ∀ (n : Nat), (∀ j, j < n → f j = g j) → runB s f n = runB s g n
  | 0, _ => rfl
  | n + 1, h => by
    simp only [runB]
    rw [runB_cong n fun j hj => h j (by omega), h n (by omega)]

theorem run_runB (s : BitVec 32) (l : List UInt8) : ∀ i, i ≤ l.length → run s (l.take i) = runB s (bitAt l) (8 * i)
  | 0, _ => by rw [List.take_zero]; rfl
  | i + 1, h => by
    have ih := run_runB s l i (by omega)
    have hc : l[i]? = some l[i] := List.getElem?_eq_getElem (by omega)
    rw [run_take _ _ _ _ hc, ← mid_eight, ih]
    have key : ∀ k, k ≤ 8 → mid (runB s (bitAt l) (8 * i)) l[i] k = runB s (bitAt l) (8 * i + k) := by
      intro k
      induction k with
      | zero => intro _; exact mid_zero _ _
      | succ k ihk =>
        intro hk
        rw [← mid_step, ihk (by omega), and1_b1]
        show _ = bit (runB s (bitAt l) (8 * i + k) ^^^ b1 (bitAt l (8 * i + k)))
        congr 3
        unfold bitAt
        rw [show (8 * i + k) / 8 = i by omega, show (8 * i + k) % 8 = k by omega, List.getD_eq_getElem?_getD, hc]
        simp only [Option.getD_some, BitVec.getLsbD_ushiftRight, BitVec.getLsbD_setWidth, Nat.add_zero]
        have : k < 32 := by omega
        simp [this]
    exact key 8 (Nat.le_refl _)

theorem runB_xor (s t : BitVec 32) (f g : Nat → Bool) : ∀ n, runB s f n ^^^ runB t g n = runB (s ^^^ t) (fun j => f j ^^ g j) n
  | 0 => rfl
  | n + 1 => by
    simp only [runB]
    rw [← bit_xor, ← runB_xor s t f g n]
    congr 1
    generalize runB s f n = a
    generalize runB t g n = b
    have e : b1 (f n ^^ g n) = b1 (f n) ^^^ b1 (g n) := by cases f n <;> cases g n <;> decide
    rw [e]
    generalize b1 (f n) = c
    generalize b1 (g n) = d
    rw [BitVec.xor_assoc, BitVec.xor_assoc, ← BitVec.xor_assoc c b d, BitVec.xor_comm c b, BitVec.xor_assoc b c d]

/-- What is turned. -/
def turned (p : Nat) (t : BitVec 32) (k j : Nat) : Bool := decide (p ≤ j) && decide (j < p + k) && t.getLsbD (j - p)

theorem bits_zero (k : Nat) : bits 0#32 k = 0#32 := by
  induction k with
  | zero => rfl
  | succ k ih => show bit (bits 0#32 k) = 0#32; rw [ih]; decide

theorem burst_zero (p : Nat) (t : BitVec 32) : ∀ j, j ≤ p → runB 0#32 (turned p t 32) j = 0#32
  | 0, _ => rfl
  | j + 1, h => by
    simp only [runB]
    rw [burst_zero p t j (by omega)]
    have : turned p t 32 j = false := by
      unfold turned
      rw [decide_eq_false (by omega)]; rfl
    rw [this]; decide

theorem burst_mid (p : Nat) (t : BitVec 32) : ∀ k, k ≤ 32 → runB 0#32 (turned p t 32) (p + k) = bits t k ^^^ t >>> k
  | 0, _ => by rw [Nat.add_zero, burst_zero p t p (Nat.le_refl _), BitVec.ushiftRight_zero, bits, BitVec.xor_self]
  | k + 1, h => by
    show bit (runB 0#32 (turned p t 32) (p + k) ^^^ b1 (turned p t 32 (p + k))) = _
    rw [burst_mid p t k (by omega)]
    have e : b1 (turned p t 32 (p + k)) = t >>> k &&& 1#32 := by
      rw [and1_b1]
      congr 1
      unfold turned
      rw [decide_eq_true (by omega), decide_eq_true (by omega), Nat.add_sub_cancel_left]
      simp
    rw [e, BitVec.xor_assoc, bit_xor, bit_low, ← BitVec.shiftRight_add]
    rfl

theorem burst_end (p : Nat) (t : BitVec 32) : ∀ q, runB 0#32 (turned p t 32) (p + 32 + q) = bits (bits t 32) q
  | 0 => by
    rw [Nat.add_zero, burst_mid p t 32 (Nat.le_refl _)]
    have : t >>> 32 = 0#32 := by
      apply BitVec.eq_of_toNat_eq
      rw [BitVec.toNat_ushiftRight, Nat.shiftRight_eq_div_pow]
      exact Nat.div_eq_of_lt t.isLt
    rw [this, BitVec.xor_zero]; rfl
  | q + 1 => by
    show bit (runB 0#32 (turned p t 32) (p + 32 + q) ^^^ b1 (turned p t 32 (p + 32 + q))) = _
    rw [burst_end p t q]
    have : turned p t 32 (p + 32 + q) = false := by
      unfold turned
      rw [decide_eq_true (by omega), decide_eq_false (by omega)]; rfl
    rw [this]
    show bit (bits (bits t 32) q ^^^ 0#32) = _
    rw [BitVec.xor_zero]; rfl

theorem burst_ne {p n : Nat} {t : BitVec 32} (ht : t ≠ 0#32) (hp : p ≤ n) (hin : ∀ i, t.getLsbD i = true → p + i < n) : runB 0#32 (turned p t 32) n ≠ 0#32 := by
  intro h
  rcases Nat.lt_or_ge (p + 32) n with h1 | h1
  · have e := burst_end p t (n - (p + 32))
    rw [show p + 32 + (n - (p + 32)) = n by omega, h] at e
    rw [← bits_zero (n - (p + 32))] at e
    have e2 := bits_inj _ e
    rw [← bits_zero 32] at e2
    exact ht (bits_inj _ e2).symm
  · have e := burst_mid p t (n - p) (by omega)
    rw [show p + (n - p) = n by omega, h] at e
    have hz : t >>> (n - p) = 0#32 := by
      apply BitVec.eq_of_getLsbD_eq
      intro i hi
      rw [BitVec.getLsbD_ushiftRight]
      cases hb : t.getLsbD (n - p + i) with
      | false => simp
      | true => have := hin _ hb; omega
    rw [hz, BitVec.xor_zero, ← bits_zero (n - p)] at e
    exact ht (bits_inj _ e).symm

/-- Bytes that differ in a burst have unlike sums. -/
theorem tears {b c : List UInt8} {p : Nat} {t : BitVec 32} (hl : c.length = b.length) (ht : t ≠ 0#32) (hp : p ≤ 8 * b.length) (hin : ∀ i, t.getLsbD i = true → p + i < 8 * b.length)
    (hbit : ∀ j, j < 8 * b.length → bitAt c j = (bitAt b j ^^ turned p t 32 j)) : more 0 b ≠ more 0 c := by
  intro h
  have h1 : run (~~~0#32) b = run (~~~0#32) c := not_inj h
  have e1 := run_runB (~~~0#32) b b.length (Nat.le_refl _)
  have e2 := run_runB (~~~0#32) c c.length (Nat.le_refl _)
  rw [List.take_length] at e1 e2
  rw [e1, e2, hl, runB_cong (8 * b.length) hbit] at h1
  have h2 := runB_xor (~~~0#32) (~~~0#32) (bitAt b) (fun j => bitAt b j ^^ turned p t 32 j) (8 * b.length)
  rw [← h1, BitVec.xor_self, BitVec.xor_self] at h2
  have h3 : runB 0#32 (fun j => bitAt b j ^^ (bitAt b j ^^ turned p t 32 j)) (8 * b.length) = runB 0#32 (turned p t 32) (8 * b.length) :=
    runB_cong _ fun j _ => by cases bitAt b j <;> simp
  rw [h3] at h2
  exact burst_ne ht hp hin h2.symm
end Go.AW.Crc
