import Derived.Test.YtagligpagpaceaaP5
/- A count's bytes, read; plain. -/
set_option linter.unusedVariables false
set_option linter.unusedSimpArgs false
namespace Go.AW.Wir
open Go Go.AW

theorem numB_cons (c : UInt8) (l : List UInt8) : numB (c :: l) = c.toNat * 256 ^ l.length + numB l := by
  have h : ∀ (l : List UInt8) (a : Nat), l.foldl (fun n c => n * 256 + c.toNat) a = a * 256 ^ l.length + numB l := by
    intro l
    induction l with
    | nil => intro a; simp [numB]
    | cons d r ih =>
      intro a
      rw [List.foldl_cons, ih, List.length_cons, Nat.pow_succ]
      have : numB (d :: r) = d.toNat * 256 ^ r.length + numB r := by
        show (d :: r).foldl _ 0 = _
        rw [List.foldl_cons, ih]
        simp
      rw [this, Nat.add_mul, Nat.add_assoc, Nat.mul_assoc, Nat.mul_comm 256]
  show (c :: l).foldl _ 0 = _
  rw [List.foldl_cons, h]
  simp
theorem numB_pos {l : List UInt8} (hne : l ≠ []) (hl : l.head? ≠ some 0) : numB l ≠ 0 := by
  cases l with
  | nil => exact absurd rfl hne
  | cons c r =>
    rw [numB_cons]
    have hc : c.toNat ≠ 0 := fun e => hl (by rw [List.head?_cons]; exact congrArg some (UInt8.toNat_inj.1 (by rw [e]; rfl)))
    have h1 : 0 < 256 ^ r.length := Nat.pow_pos (by decide)
    have h2 : 0 < c.toNat * 256 ^ r.length := Nat.mul_pos (by omega) h1
    omega
/-- The bytes of a number, the least first, are read back. -/
theorem leF_num : ∀ (f : Nat) (l : List UInt8), l.head? ≠ some 0 → l.length ≤ f → leF f (numB l) = l.reverse
  | 0, l, hl, h => by
    obtain rfl : l = [] := List.length_eq_zero_iff.1 (by omega)
    rfl
  | f + 1, l, hl, h => by
    by_cases hne : l = []
    · subst hne; rfl
    · have hd := List.dropLast_concat_getLast hne
      have h0 := numB_pos hne hl
      generalize l.getLast hne = c at hd
      generalize l.dropLast = r at hd
      subst hd
      show (if numB (r ++ [c]) = 0 then [] else UInt8.ofNat (numB (r ++ [c])) :: leF f (numB (r ++ [c]) / 256)) = _
      rw [if_neg h0, numB_snoc]
      have hc := c.toNat_lt
      have h1 : UInt8.ofNat (numB r * 256 + c.toNat) = c := by
        apply UInt8.toNat_inj.1
        rw [UInt8.toNat_ofNat']
        omega
      have h2 : (numB r * 256 + c.toNat) / 256 = numB r := by omega
      rw [h1, h2, leF_num f r ?_ (by simp at h; omega)]
      · simp
      · cases r with
        | nil => simp
        | cons d t => simpa using hl
/-- A count that is read is its number's bytes. -/
theorem cnt_back {b r : List UInt8} {n : Nat} (h : cnt b = some (n, r)) : b = cntB n ++ r := by
  unfold cnt at h
  split at h
  · cases h
  · rename_i k t
    split at h
    · cases h
    · rename_i h1
      split at h
      · cases h
      · rename_i h2
        cases h
        have hk : (t.take k.toNat).length = k.toNat := by rw [List.length_take]; omega
        have hle : le (numB (t.take k.toNat)) = (t.take k.toNat).reverse := by
          refine leF_num 8 _ ?_ (by omega)
          intro e
          refine h2 ⟨?_, ?_⟩
          · cases hz : k.toNat with
            | zero => rw [hz, List.take_zero] at e; cases e
            | succ m => omega
          · cases t with
            | nil => simp at e
            | cons d u =>
              cases hz : k.toNat with
              | zero => rw [hz] at e; simp at e
              | succ m => rw [hz, List.take_succ_cons] at e; simpa using e
        unfold cntB
        rw [hle, List.length_reverse, hk, List.reverse_reverse, List.cons_append, List.take_append_drop]
        congr 1
        exact UInt8.toNat_inj.1 (by rw [UInt8.toNat_ofNat']; have := k.toNat_lt; omega)
theorem siz_back {m : Nat} {b r : List UInt8} {n : Nat} (h : siz m b = some (n, r)) : b = cntB n ++ r ∧ n ≤ m := by
  unfold siz at h
  split at h
  · cases h
  · rename_i hc
    split at h
    · cases h
    · cases h
      exact ⟨cnt_back hc, by omega⟩
theorem zig_unzig (n : Nat) : zig (unzig n) = n := by
  unfold zig unzig
  split <;> split <;> omega
end Go.AW.Wir
