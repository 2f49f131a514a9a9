import Derived.Test.YtagligpagpaceaaP1
/- Values of items, and their bytes; plain. -/
set_option linter.unusedVariables false
set_option linter.unusedSimpArgs false
namespace Go.AW.Wir
open Go Go.AW

/-- A number's bytes, the least first. -/
def leF : Nat → Nat → List UInt8
  | 0, _ => []
  | f + 1, n => if n = 0 then [] else UInt8.ofNat n :: leF f (n / 256)
def le (n : Nat) : List UInt8 := leF 8 n
def cntB (n : Nat) : List UInt8 := UInt8.ofNat (le n).length :: (le n).reverse
theorem leF_len : ∀ f n, (leF f n).length ≤ f
  | 0, _ => Nat.le_refl _
  | f + 1, n => by
    simp only [leF]
    split
    · simp
    · rw [List.length_cons]; have := leF_len f (n / 256); omega
theorem le_len (n : Nat) : (le n).length ≤ 8 := leF_len 8 n
/-- What is left of a number behind some of its bytes. -/
theorem leF_split : ∀ f n k, k ≤ f → leF f n = (leF f n).take k ++ leF (f - k) (n / 256 ^ k)
  | f, n, 0, h => by simp
  | 0, n, k + 1, h => by omega
  | f + 1, n, k + 1, h => by
    simp only [leF]
    split
    · rename_i hn
      subst hn
      simp only [List.take_nil, List.nil_append, Nat.zero_div]
      cases e : f + 1 - (k + 1) <;> simp [leF]
    · have := leF_split f (n / 256) k (by omega)
      rw [List.take_succ_cons, List.cons_append, show f + 1 - (k + 1) = f - k by omega, Nat.pow_succ, Nat.mul_comm, ← Nat.div_div_eq_div_mul, ← this]
theorem leF_more (f n : Nat) (h : n < 256 ^ f) : leF (f + 1) n = leF f n := by
  induction f generalizing n with
  | zero => obtain rfl : n = 0 := by omega
            rfl
  | succ f ih =>
    by_cases hn : n = 0
    · subst hn; rfl
    · show (if n = 0 then _ else UInt8.ofNat n :: leF (f + 1) (n / 256)) = (if n = 0 then _ else UInt8.ofNat n :: leF f (n / 256))
      rw [if_neg hn, if_neg hn, ih]
      rw [Nat.pow_succ, Nat.mul_comm] at h
      exact Nat.div_lt_of_lt_mul h

/-- What an item becomes ahead of its bytes. -/
inductive Val where
  | num (n : Int)
  | txt (s : List UInt8)
  | lst (l : List Val)
  | bad
def zig (n : Int) : Nat := if 0 ≤ n then 2 * n.toNat else 2 * (-n).toNat - 1
mutual
def enV : Val → Option (List UInt8)
  | .num n => some (1 :: cntB (zig n))
  | .txt s => some (2 :: cntB s.length ++ s)
  | .lst l => match enL l with
    | none => none
    | some b => some (3 :: cntB l.length ++ b)
  | .bad => none
def enL : List Val → Option (List UInt8)
  | [] => some []
  | v :: r => match enV v, enL r with
    | some a, some b => some (a ++ b)
    | _, _ => none
end
mutual
def nI : It → Nat
  | .mk _ _ _ l => 1 + nL l
def nL : List It → Nat
  | [] => 0
  | i :: r => nI i + nL r
end
mutual
def dI : It → Nat
  | .mk _ _ _ l => 1 + dL l
def dL : List It → Nat
  | [] => 0
  | i :: r => max (dI i) (dL r)
end
mutual
def bigI : It → Bool
  | .mk k _ s l => (k == 2 && decide (4096 < s.length)) || bigL l
def bigL : List It → Bool
  | [] => false
  | i :: r => bigI i || bigL r
end
mutual
def vI : It → Val
  | .mk k n s l => if k = 1 ∧ s = [] ∧ l = [] then .num n else if k = 2 ∧ n = 0 ∧ l = [] then .txt s else if k ≠ 3 ∨ n ≠ 0 ∨ s ≠ [] then .bad else .lst (vL l)
def vL : List It → List Val
  | [] => []
  | i :: r => vI i :: vL r
end
theorem vL_map : ∀ l : List It, vL l = l.map vI
  | [] => rfl
  | i :: r => by rw [vL, vL_map r, List.map_cons]
theorem nL_append : ∀ a b : List It, nL (a ++ b) = nL a + nL b
  | [], b => by simp [nL]
  | i :: r, b => by rw [List.cons_append, nL, nL, nL_append r b]; omega
theorem nI_pos (i : It) : 1 ≤ nI i := by cases i; rw [nI]; omega
theorem dI_pos (i : It) : 1 ≤ dI i := by cases i; rw [dI]; omega
/-- It may be told, at a depth, of so many. -/
def okc (i : It) (deep left : Int) : Prop := (nI i : Int) ≤ left ∧ deep + dI i ≤ 13 ∧ bigI i = false
def okl (l : List It) (deep left : Int) : Prop := (nL l : Int) ≤ left ∧ (l = [] ∨ deep + dL l ≤ 13) ∧ bigL l = false
theorem okl_cons {i : It} {r : List It} {deep left : Int} : okl (i :: r) deep left ↔ okc i deep left ∧ okl r deep (left - nI i) := by
  unfold okl okc
  rw [nL, dL, bigL, Bool.or_eq_false_iff]
  have hp := dI_pos i
  constructor
  · rintro ⟨h1, h2, h3, h4⟩
    have h2 := h2.resolve_left (List.cons_ne_nil _ _)
    exact ⟨⟨by omega, by omega, h3⟩, by omega, .inr (by omega), h4⟩
  · rintro ⟨⟨h1, h2, h3⟩, h4, h5, h6⟩
    refine ⟨by omega, .inr ?_, h3, h6⟩
    rcases h5 with rfl | h5
    · rw [dL]; omega
    · omega
theorem okc_mk {k n : Int} {s : List UInt8} {l : List It} {deep left : Int} : okc (.mk k n s l) deep left ↔ 0 ≤ left - 1 ∧ deep ≤ 12 ∧ ¬ (k = 2 ∧ 4096 < s.length) ∧ okl l (deep + 1) (left - 1) := by
  unfold okc okl
  rw [nI, dI, bigI, Bool.or_eq_false_iff]
  have hb : (k == 2 && decide (4096 < s.length)) = false ↔ ¬ (k = 2 ∧ 4096 < s.length) := by
    rw [← Bool.not_eq_true, Bool.and_eq_true, beq_iff_eq, decide_eq_true_eq]
  rw [hb]
  constructor
  · rintro ⟨h1, h2, h3, h4⟩
    exact ⟨by omega, by omega, h3, by omega, .inr (by omega), h4⟩
  · rintro ⟨h1, h2, h3, h4, h5, h6⟩
    refine ⟨by omega, ?_, h3, h6⟩
    rcases h5 with rfl | h5
    · rw [dL]; omega
    · omega
end Go.AW.Wir
