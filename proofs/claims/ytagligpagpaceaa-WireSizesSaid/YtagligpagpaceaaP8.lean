import Derived.Test.YtagligpagpaceaaP5
/- A list's size; plain. -/
set_option linter.unusedVariables false
set_option linter.unusedSimpArgs false
namespace Go.AW.Wir
open Go Go.AW

/-- An item that stands in a list here. -/
def Fits (i : It) : Prop := (nI i : Int) ≤ 90 ∧ (dI i : Int) ≤ 6 ∧ (encode i).2 = 0
/-- The items' bytes, counted. -/
noncomputable def szs : List It → Nat
  | [] => 0
  | i :: r => (encode i).1.length + szs r
theorem szs_append : ∀ a b : List It, szs (a ++ b) = szs a + szs b
  | [], b => by simp [szs]
  | i :: r, b => by rw [List.cons_append, szs, szs, szs_append r b]; omega
theorem fits_list : ∀ l : List It, (∀ i ∈ l, Fits i) → nL l ≤ 90 * l.length ∧ dL l ≤ 6 ∧ bigL l = false ∧ ∃ b, enL (vL l) = some b ∧ b.length = szs l
  | [], _ => ⟨by rw [nL]; omega, by rw [dL]; omega, by rw [bigL], [], by rw [vL, enL], rfl⟩
  | i :: r, h => by
    obtain ⟨h1, h2, h3⟩ := h i List.mem_cons_self
    obtain ⟨g1, g2, g3, b, g4, g5⟩ := fits_list r (fun j hj => h j (List.mem_cons_of_mem _ hj))
    obtain ⟨ho, a, ha⟩ := enc_iff.1 h3
    refine ⟨by rw [nL, List.length_cons]; omega, by rw [dL]; omega, by rw [bigL, ho.2.2, g3]; rfl, a ++ b, by rw [vL, enL, ha, g4], ?_⟩
    rw [List.length_append, szs, g5, enc_of ho ha]
/-- A list, so deep in others. -/
def nest (l : List It) : Nat → It
  | 0 => .mk 3 0 [] l
  | m + 1 => .mk 3 0 [] [nest l m]
def base (n : Nat) : Nat := if n = 0 then 2 else 3
theorem cntB_small (n : Nat) (h : n ≤ 40) : (cntB n).length + 1 = base n := by
  have : ∀ n : Fin 41, (cntB n.1).length + 1 = base n.1 := by decide
  exact this ⟨n, by omega⟩
theorem nest_ok {l : List It} (hl : l.length ≤ 40) (h : ∀ i ∈ l, Fits i) : ∀ m, m ≤ 4 → nI (nest l m) ≤ 3601 + m ∧ dI (nest l m) ≤ 7 + m ∧ bigI (nest l m) = false ∧ ∃ b, enV (vI (nest l m)) = some b ∧ b.length = base l.length + szs l + 3 * m
  | 0, _ => by
    obtain ⟨g1, g2, g3, b, g4, g5⟩ := fits_list l h
    refine ⟨by rw [nest, nI]; omega, by rw [nest, dI]; omega, by rw [nest, bigI, g3]; simp, 3 :: cntB (vL l).length ++ b, by rw [nest, vI_row, enV, g4], ?_⟩
    rw [vL_map, List.length_map, List.length_append, List.length_cons, g5, cntB_small _ hl]
    rfl
  | m + 1, hm => by
    obtain ⟨g1, g2, g3, b, g4, g5⟩ := nest_ok hl h m (by omega)
    refine ⟨by rw [nest, nI, nL, nL]; omega, by rw [nest, dI, dL, dL]; omega, by rw [nest, bigI, bigL, g3, bigL]; simp, 3 :: cntB 1 ++ (b ++ []), by rw [nest, vI_row, vL, vL, enV, enL, g4, enL]; rfl, ?_⟩
    rw [List.length_append, List.length_append, List.length_cons, g5, cntB_small 1 (by omega)]
    show base 1 + (_ + 0) = _
    simp only [base, if_neg (show ¬ (1 : Nat) = 0 by omega)]
    omega
theorem nest_len {l : List It} (hl : l.length ≤ 40) (h : ∀ i ∈ l, Fits i) (m : Nat) (hm : m ≤ 4) : (encode (nest l m)).1.length = base l.length + szs l + 3 * m := by
  obtain ⟨g1, g2, g3, b, g4, g5⟩ := nest_ok hl h m hm
  rw [enc_of ⟨by omega, by omega, g3⟩ g4, g5]
end Go.AW.Wir
