/- Numbers of many digits: what they tell. -/
import Derived.Test.YtjlbhhcjghlfiaaV12
set_option linter.unusedVariables false
set_option linter.unusedSimpArgs false
namespace Go.AW.Vec
open Go Go.AW Go.Proofs

def digsF : Nat → Nat → List Nat
  | 0, _ => []
  | f + 1, n => if n = 0 then [] else n % 10 :: digsF f (n / 10)
theorem digsF_any : ∀ (f g n : Nat), n < f → n < g → digsF f n = digsF g n
  | 0, _, n, h, _ => by omega
  | _ + 1, 0, n, _, h => by omega
  | f + 1, g + 1, n, h1, h2 => by
    by_cases h0 : n = 0
    · simp [digsF, h0]
    · simp only [digsF, if_neg h0]
      rw [digsF_any f g (n / 10) (by omega) (by omega)]
def digs (n : Nat) : List Nat := digsF (n + 1) n
theorem digs_zero : digs 0 = [] := rfl
theorem digs_pos {n : Nat} (h : n ≠ 0) : digs n = n % 10 :: digs (n / 10) := by
  unfold digs
  rw [show digsF (n + 1) n = if n = 0 then [] else n % 10 :: digsF n (n / 10) from rfl, if_neg h, digsF_any n (n / 10 + 1) (n / 10) (by omega) (by omega)]
theorem valD_digs (n : Nat) : valD (digs n) = n := by
  induction n using Nat.strongRecOn with
  | _ n ih =>
    by_cases h : n = 0
    · subst h; rfl
    · rw [digs_pos h, valD, ih (n / 10) (by omega)]; omega
theorem digs_lt (n : Nat) : ∀ d ∈ digs n, d < 10 := by
  induction n using Nat.strongRecOn with
  | _ n ih =>
    by_cases h : n = 0
    · subst h; simp [digs_zero]
    · rw [digs_pos h]
      intro d hd
      rcases List.mem_cons.1 hd with rfl | hd
      · omega
      · exact ih (n / 10) (by omega) d hd
theorem digs_len (k : Nat) : ∀ n, n < 10 ^ k → (digs n).length ≤ k := by
  induction k with
  | zero => intro n h; have : n = 0 := by simpa using h
            subst this; simp [digs_zero]
  | succ k ih =>
    intro n h
    by_cases h0 : n = 0
    · subst h0; simp [digs_zero]
    · rw [digs_pos h0, List.length_cons]
      have := ih (n / 10) (by rw [Nat.pow_succ] at h; omega)
      omega
/-- Rows of digits. -/
def Dg (l : List Nat) : Prop := ∀ d ∈ l, d < 10
theorem dig_lt {l : List Nat} (h : Dg l) (i : Nat) : dig l i < 10 := by
  unfold dig
  rw [List.getD_eq_getElem?_getD]
  cases e : l[i]? with
  | none => simp
  | some d => exact h d (List.mem_of_getElem? e)
/-- What the first digits tell. -/
def pv (l : List Nat) : Nat → Nat
  | 0 => 0
  | i + 1 => pv l i + dig l i * 10 ^ i
theorem pv_lt {l : List Nat} (h : Dg l) : ∀ i, pv l i < 10 ^ i
  | 0 => by simp [pv]
  | i + 1 => by
    have h1 := pv_lt h i
    have h2 := dig_lt h i
    have h3 : dig l i * 10 ^ i ≤ 9 * 10 ^ i := Nat.mul_le_mul_right _ (by omega)
    rw [pv, Nat.pow_succ]; omega
theorem pv_cons (d : Nat) (l : List Nat) : ∀ i, pv (d :: l) (i + 1) = d + 10 * pv l i
  | 0 => by simp [pv, dig]
  | i + 1 => by
    have h := pv_cons d l i
    rw [pv, h, pv]
    have : dig (d :: l) (i + 1) = dig l i := rfl
    rw [this, Nat.pow_succ]
    have e : dig l i * (10 ^ i * 10) = 10 * (dig l i * 10 ^ i) := by rw [← Nat.mul_assoc, Nat.mul_comm]
    rw [e]; omega
theorem pv_all : ∀ (l : List Nat) (i : Nat), l.length ≤ i → pv l i = valD l
  | [], i, _ => by
    have : ∀ i, pv [] i = 0 := by
      intro i
      induction i with
      | zero => rfl
      | succ i ih => rw [pv, ih]; simp [dig]
    rw [this]; rfl
  | d :: l, 0, h => by simp at h
  | d :: l, i + 1, h => by rw [pv_cons, pv_all l i (by simpa using h)]; rfl
theorem valD_append (l : List Nat) (d : Nat) : valD (l ++ [d]) = valD l + d * 10 ^ l.length := by
  induction l with
  | nil => simp [valD]
  | cons x r ih =>
    simp only [List.cons_append, valD, ih, List.length_cons, Nat.pow_succ]
    have e : d * (10 ^ r.length * 10) = 10 * (d * 10 ^ r.length) := by rw [← Nat.mul_assoc, Nat.mul_comm]
    rw [e]; omega
theorem valD_lt {l : List Nat} (h : Dg l) : valD l < 10 ^ l.length := by
  rw [← pv_all l l.length (Nat.le_refl _)]; exact pv_lt h _
theorem lessD_iff {a b : List Nat} (ha : Dg a) (hb : Dg b) : ∀ i, lessD a b i = decide (pv a i < pv b i)
  | 0 => by simp [lessD, pv]
  | i + 1 => by
    have h1 := pv_lt ha i
    have h2 := pv_lt hb i
    rw [lessD, pv, pv]
    by_cases e : dig a i = dig b i
    · rw [if_pos e, lessD_iff ha hb i, e]
      exact decide_eq_decide.2 (by omega)
    · rw [if_neg e]
      refine decide_eq_decide.2 ?_
      constructor
      · intro h
        have : (dig a i + 1) * 10 ^ i ≤ dig b i * 10 ^ i := Nat.mul_le_mul_right _ h
        rw [Nat.add_mul] at this; omega
      · intro h
        apply Decidable.byContradiction
        intro h3
        have : (dig b i + 1) * 10 ^ i ≤ dig a i * 10 ^ i := Nat.mul_le_mul_right _ (by omega)
        rw [Nat.add_mul] at this; omega
theorem lessD_val {a b : List Nat} (ha : Dg a) (hb : Dg b) : lessD a b (max a.length b.length) = decide (valD a < valD b) := by
  rw [lessD_iff ha hb, pv_all a _ (by omega), pv_all b _ (by omega)]

/-- A row without zeros at its end is what its number's digits are. -/
theorem digs_of {l : List Nat} (h : Dg l) (hz : ∀ d, l.getLast? = some d → d ≠ 0) : digs (valD l) = l := by
  induction l with
  | nil => rfl
  | cons x r ih =>
    have hx : x < 10 := h x (by simp)
    have hr : Dg r := fun d hd => h d (by simp [hd])
    have hne : valD (x :: r) ≠ 0 := by
      intro e
      simp only [valD] at e
      cases r with
      | nil => exact hz x rfl (by simpa [valD] using e)
      | cons y s =>
        have e2 : valD (y :: s) = 0 := by omega
        have := ih hr (fun d hd => hz d (by rw [List.getLast?_cons_cons]; exact hd))
        rw [e2] at this; cases this
    rw [digs_pos hne]
    have e1 : valD (x :: r) % 10 = x := by simp only [valD]; omega
    have e2 : valD (x :: r) / 10 = valD r := by simp only [valD]; omega
    rw [e1, e2]
    cases r with
    | nil => rfl
    | cons y s => rw [ih hr (fun d hd => hz d (by rw [List.getLast?_cons_cons]; exact hd))]
end Go.AW.Vec
