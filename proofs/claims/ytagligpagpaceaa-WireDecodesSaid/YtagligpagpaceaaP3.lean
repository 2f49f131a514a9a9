import Derived.Test.YtagligpagpaceaaP2
/- Values' sizes and ranges; plain. -/
set_option linter.unusedVariables false
set_option linter.unusedSimpArgs false
namespace Go.AW.Wir
open Go Go.AW

mutual
/-- No more bytes than so many. -/
def szV : Val → Nat
  | .num _ => 10
  | .txt s => 10 + s.length
  | .lst l => 10 + szL l
  | .bad => 1
def szL : List Val → Nat
  | [] => 0
  | v :: r => szV v + szL r
end
mutual
def inV : Val → Prop
  | .num n => -9223372036854775808 ≤ n ∧ n ≤ 9223372036854775807
  | .txt _ => True
  | .lst l => inL l
  | .bad => True
def inL : List Val → Prop
  | [] => True
  | v :: r => inV v ∧ inL r
end
theorem szV_pos (v : Val) : 1 ≤ szV v := by cases v <;> rw [szV] <;> omega
theorem szL_len : ∀ l : List Val, l.length ≤ szL l
  | [] => Nat.zero_le _
  | v :: r => by
    rw [szL, List.length_cons]
    have := szV_pos v
    have := szL_len r
    omega
theorem cntB_len (n : Nat) : (cntB n).length ≤ 9 := by
  have := le_len n
  simp only [cntB, List.length_cons, List.length_reverse]
  omega
mutual
theorem enV_len : ∀ {v : Val} {b : List UInt8}, enV v = some b → b.length ≤ szV v
  | .num n, b, h => by
    rw [enV] at h; cases h
    have := cntB_len (zig n)
    rw [szV, List.length_cons]; omega
  | .txt s, b, h => by
    rw [enV] at h; cases h
    have := cntB_len s.length
    rw [szV, List.length_append, List.length_cons]; omega
  | .lst l, b, h => by
    rw [enV] at h
    cases e : enL l with
    | none => rw [e] at h; cases h
    | some o =>
      rw [e] at h; cases h
      have := cntB_len l.length
      have := enL_len e
      rw [szV, List.length_append, List.length_cons]; omega
  | .bad, b, h => by rw [enV] at h; cases h
theorem enL_len : ∀ {l : List Val} {b : List UInt8}, enL l = some b → b.length ≤ szL l
  | [], b, h => by rw [enL] at h; cases h; exact Nat.zero_le _
  | v :: r, b, h => by
    rw [enL] at h
    cases e : enV v with
    | none => rw [e] at h; cases h
    | some a =>
      cases e2 : enL r with
      | none => rw [e, e2] at h; cases h
      | some o =>
        rw [e, e2] at h; cases h
        have := enV_len e
        have := enL_len e2
        rw [szL, List.length_append]; omega
end
theorem inL_mem : ∀ {l : List Val} {v : Val}, inL l → v ∈ l → inV v
  | w :: r, v, h, hm => by
    rw [inL] at h
    rcases List.mem_cons.1 hm with rfl | hm
    · exact h.1
    · exact inL_mem h.2 hm
/-- What is left of a list's bytes. -/
theorem enL_step {l : List Val} {v : Val} {r : List Val} {a b : List UInt8} (h : enL l = (enL (v :: r)).map (a ++ ·)) (hv : enV v = some b) : enL l = (enL r).map ((a ++ b) ++ ·) := by
  rw [h, enL, hv]
  cases enL r with
  | none => rfl
  | some o => simp
theorem enL_stop {l : List Val} {v : Val} {r : List Val} {a : List UInt8} (h : enL l = (enL (v :: r)).map (a ++ ·)) (hv : enV v = none) : enL l = none := by
  rw [h, enL, hv]
  rfl
mutual
def inI : It → Prop
  | .mk _ n _ l => ((-9223372036854775808 ≤ n ∧ n ≤ 9223372036854775807) ∧ l.length ≤ 9223372036854775807) ∧ inIs l
def inIs : List It → Prop
  | [] => True
  | i :: r => inI i ∧ inIs r
end
mutual
theorem inV_vI : ∀ {i : It}, inI i → inV (vI i)
  | .mk k n s l, h => by
    rw [inI] at h
    rw [vI]
    split
    · rw [inV]; exact h.1.1
    · split
      · rw [inV]; trivial
      · split
        · rw [inV]; trivial
        · rw [inV]; exact inL_vL h.2
theorem inL_vL : ∀ {l : List It}, inIs l → inL (vL l)
  | [], h => by rw [vL, inL]; trivial
  | i :: r, h => by
    rw [inIs] at h
    rw [vL, inL]
    exact ⟨inV_vI h.1, inL_vL h.2⟩
end
mutual
theorem szV_vI : ∀ {i : It}, bigI i = false → szV (vI i) ≤ 4106 * nI i
  | .mk k n s l, h => by
    rw [bigI, Bool.or_eq_false_iff] at h
    rw [vI, nI]
    split
    · rw [szV]; omega
    · split
      · rename_i hk
        rw [szV]
        have h1 := h.1
        rw [hk.1] at h1
        have : ¬ 4096 < s.length := fun hh => by rw [decide_eq_true hh] at h1; cases h1
        omega
      · split
        · rw [szV]; omega
        · rw [szV]
          have := szL_vL h.2
          omega
theorem szL_vL : ∀ {l : List It}, bigL l = false → szL (vL l) ≤ 4106 * nL l
  | [], h => by rw [vL, szL]; omega
  | i :: r, h => by
    rw [bigL, Bool.or_eq_false_iff] at h
    rw [vL, szL, nL]
    have := szV_vI h.1
    have := szL_vL h.2
    omega
end
end Go.AW.Wir
