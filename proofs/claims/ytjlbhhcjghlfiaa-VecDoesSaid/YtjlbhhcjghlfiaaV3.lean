/- Vectors: wide numbers. -/
import Derived.Test.YtjlbhhcjghlfiaaV2
set_option linter.unusedVariables false
set_option linter.unusedSimpArgs false
namespace Go.AW.Vec
open Go Go.AW Go.Proofs
set_option maxRecDepth 10000
set_option pp.maxSteps 900

def big : Int := 4294967296
theorem ofInt64 (n : Int) : (BitVec.ofInt 64 n).toNat = (n % 18446744073709551616).toNat := by rw [BitVec.toNat_ofInt]; rfl
theorem and_mask (n : Int) : bitsI .and .i64 n 4294967295 = n % 4294967296 := by
  have e1 : (BitVec.ofInt IntKind.i64.bits n &&& BitVec.ofInt IntKind.i64.bits 4294967295).toNat = (n % 4294967296).toNat := by
    show (BitVec.ofInt 64 n &&& BitVec.ofInt 64 4294967295).toNat = _
    rw [BitVec.toNat_and, ofInt64, show (BitVec.ofInt 64 4294967295).toNat = 2 ^ 32 - 1 from by decide, Nat.and_two_pow_sub_one_eq_mod]
    have h1 : (n % 18446744073709551616) % 4294967296 = n % 4294967296 := Int.emod_emod_of_dvd n (by decide)
    have h2 := Int.emod_nonneg n (show (18446744073709551616 : Int) ≠ 0 by decide)
    omega
  show IntKind.i64.wrap _ = _
  rw [e1]
  have h1 := Int.emod_nonneg n (show (4294967296 : Int) ≠ 0 by decide)
  have h2 := Int.emod_lt_of_pos n (show (0 : Int) < 4294967296 by decide)
  rw [wrap_i64 _ (by omega) (by omega)]
  omega
theorem wrap_ofInt (z : Int) (h1 : -9223372036854775808 ≤ z) (h2 : z ≤ 9223372036854775807) : IntKind.i64.wrap ((BitVec.ofInt 64 z).toNat : Int) = z := by
  rw [ofInt64]
  have e1 : (2 : Int) ^ IntKind.i64.bits = 18446744073709551616 := by decide
  have e2 : (2 : Int) ^ (IntKind.i64.bits - 1) = 9223372036854775808 := by decide
  simp only [IntKind.wrap, e1, e2, show IntKind.i64.signed = true from rfl, Bool.true_and, decide_eq_true_eq]
  have h3 := Int.emod_nonneg z (show (18446744073709551616 : Int) ≠ 0 by decide)
  rw [Int.toNat_of_nonneg h3]
  split <;> rename_i h0 <;> omega
theorem or_sum (h l : Int) (hl : 0 ≤ l) (hl2 : l < 4294967296) (hh : -2147483648 ≤ h) (hh2 : h < 2147483648) : bitsI .or .i64 (h * 4294967296) l = h * 4294967296 + l := by
  show IntKind.i64.wrap (((BitVec.ofInt 64 (h * 4294967296) ||| BitVec.ofInt 64 l).toNat : Nat) : Int) = _
  have hy : ∀ i, 32 ≤ i → (BitVec.ofInt 64 l).getLsbD i = false := by
    intro i hi
    rw [BitVec.getLsbD, ofInt64]
    apply Nat.testBit_lt_two_pow
    have : 2 ^ 32 ≤ 2 ^ i := Nat.pow_le_pow_right (by decide) hi
    have e : l % 18446744073709551616 = l := Int.emod_eq_of_lt hl (by omega)
    rw [e]
    have : l.toNat < 4294967296 := by omega
    omega
  have hx : ∀ i, i < 32 → (BitVec.ofInt 64 (h * 4294967296)).getLsbD i = false := by
    intro i hi
    rw [BitVec.getLsbD, ofInt64]
    have h3 : ∃ q : Nat, (h * 4294967296 % 18446744073709551616).toNat = 4294967296 * q := by
      refine ⟨((h * 4294967296 % 18446744073709551616) / 4294967296).toNat, ?_⟩
      have h4 := Int.emod_nonneg (h * 4294967296) (show (18446744073709551616 : Int) ≠ 0 by decide)
      omega
    obtain ⟨q, hq⟩ := h3
    rw [hq, show (4294967296 : Nat) = 2 ^ 32 from rfl, Nat.testBit_two_pow_mul]
    simp; omega
  have hz : BitVec.ofInt 64 (h * 4294967296) &&& BitVec.ofInt 64 l = 0#64 := by
    apply BitVec.eq_of_getLsbD_eq
    intro i hi
    rw [BitVec.getLsbD_and]
    rcases Nat.lt_or_ge i 32 with h3 | h3
    · rw [hx i h3]; simp
    · rw [hy i h3]; simp
  rw [← BitVec.add_eq_or_of_and_eq_zero _ _ hz, ← BitVec.ofInt_add, wrap_ofInt _ (by omega) (by omega)]

theorem shr_i64 (n : Int) (k : Nat) (hk : k ≤ 64) : n.fdiv (2 ^ min (Int.toNat (k : Int)) IntKind.i64.bits) = n / ((2 ^ k : Nat) : Int) := by
  rw [Int.toNat_natCast, show IntKind.i64.bits = 64 from rfl, Nat.min_eq_left hk, Int.fdiv_eq_ediv_of_nonneg _ (Int.pow_nonneg (by decide))]
  push_cast; rfl
theorem shr32 (n : Int) : n.fdiv (2 ^ min (Int.toNat 32) IntKind.i64.bits) = n / 4294967296 := shr_i64 n 32 (by decide)
theorem shl32 (n : Int) : n * 2 ^ min (Int.toNat 32) IntKind.i64.bits = n * 4294967296 := rfl

def wR (w : Int) : List T := [i64 (w / 4294967296), i64 (w % 4294967296)]
def wT (w : Int) : T := .agg (wR w)
theorem wide_add (w n s : Int) (hs : s = 1 ∨ s = -1) (hw1 : -19807040628566084398385987584 ≤ w) (hw2 : w ≤ 19807040628566084398385987584) (hn : okI n) :
    FCv Try.prog 31 [wT w, i64 n, i64 s] (wT (w + s * n)) := by
  obtain ⟨hn1, hn2⟩ := hn
  refine FCv_of_awp (fn := Try.f31) (c := bodyC Try.f31) Try.func31 rfl (of_decide_eq_true rfl) [] ?_
  conv => whnf
  refine ⟨by decide, ?_⟩
  conv => whnf
  refine ⟨by decide, ?_⟩
  conv => whnf
  refine .inl ?_
  have e3 : ∀ z, okI z → IntKind.i64.wrap z = z := fun z hz => wrap_i64 z hz.1 hz.2
  refine Eq.trans (b := T.agg [i64 (IntKind.i64.wrap (IntKind.i64.wrap (w / 4294967296 + IntKind.i64.wrap (s * (n / 4294967296))) + (IntKind.i64.wrap (w % 4294967296 + IntKind.i64.wrap (s * (n % 4294967296)))) / 4294967296)),
    i64 ((IntKind.i64.wrap (w % 4294967296 + IntKind.i64.wrap (s * (n % 4294967296)))) % 4294967296)]) ?_ ?_
  · rw [← and_mask n, ← and_mask (IntKind.i64.wrap _), ← shr32 n, ← shr32 (IntKind.i64.wrap _)]
    rfl
  · rcases hs with rfl | rfl
    · rw [e3 (1 * (n % 4294967296)) ⟨by omega, by omega⟩, e3 (1 * (n / 4294967296)) ⟨by omega, by omega⟩, e3 (w % 4294967296 + _) ⟨by omega, by omega⟩, e3 (w / 4294967296 + _) ⟨by omega, by omega⟩, e3 _ ⟨by omega, by omega⟩]
      unfold wT wR
      congr 3 <;> (first | (congr 1; omega) | (congr 2; omega))
    · rw [e3 (-1 * (n % 4294967296)) ⟨by omega, by omega⟩, e3 (-1 * (n / 4294967296)) ⟨by omega, by omega⟩, e3 (w % 4294967296 + _) ⟨by omega, by omega⟩, e3 (w / 4294967296 + _) ⟨by omega, by omega⟩, e3 _ ⟨by omega, by omega⟩]
      unfold wT wR
      congr 3 <;> (first | (congr 1; omega) | (congr 2; omega))

def okB (n : Int) : Bool := decide (-9223372036854775808 ≤ n) && decide (n ≤ 9223372036854775807)
theorem okB_iff {n : Int} : okB n = true ↔ okI n := by unfold okB okI; simp
theorem okB_no {n : Int} : okB n = false ↔ ¬ okI n := by rw [← okB_iff]; simp
def num (w : Int) : Int := if okB w = true then w else 0
theorem wide_number (w : Int) (hw1 : -19807040628566084398385987584 ≤ w) (hw2 : w ≤ 19807040628566084398385987584) : FCv Try.prog 32 [wT w] (.tup [i64 (num w), tb (okB w)]) := by
  refine FCv_of_awp (fn := Try.f32) (c := bodyC Try.f32) Try.func32 rfl (of_decide_eq_true rfl) [] ?_
  conv => whnf
  have no : ¬ okI w → ∀ P : Prop, (le1 (T.lit (.int .i64 0)) (i64 (num w)) → le1 (T.lit (.bool false)) (tb (okB w)) → P) → P := by
    intro h P k
    have hb := okB_no.2 h
    refine k (.inl ?_) (.inl ?_)
    · rw [num, hb]; rfl
    · rw [hb]; rfl
  refine br_intro (fun h => ?_) (fun h => ?_)
  · rw [h]
    have h1 := of_decide_eq_true h
    conv => whnf
    exact no (fun hk => by obtain ⟨k1, k2⟩ := hk; omega) _ fun a b => ⟨a, b, trivial⟩
  have h1 := of_decide_eq_false h
  rw [h]
  conv => whnf
  refine br_intro (fun h => ?_) (fun h => ?_)
  · rw [h]
    have h2 := of_decide_eq_true h
    conv => whnf
    exact no (fun hk => by obtain ⟨k1, k2⟩ := hk; omega) _ fun a b => ⟨a, b, trivial⟩
  have h2 := of_decide_eq_false h
  rw [h]
  conv => whnf
  refine ⟨by decide, ?_⟩
  conv => whnf
  have hk : okI w := ⟨by omega, by omega⟩
  have hb := okB_iff.2 hk
  refine ⟨Or.inl ?_, Or.inl ?_, trivial⟩
  · refine i64_cong ?_
    rw [num, hb, if_pos rfl, shl32, wrap_i64 _ (by omega) (by omega), or_sum _ _ (by omega) (by omega) (by omega) (by omega)]
    omega
  · rw [hb]; rfl
end Go.AW.Vec
