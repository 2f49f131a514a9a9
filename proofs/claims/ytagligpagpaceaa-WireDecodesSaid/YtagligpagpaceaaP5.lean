import Derived.Test.YtagligpagpaceaaP4
/- Lists' bytes; plain. -/
set_option linter.unusedVariables false
set_option linter.unusedSimpArgs false
namespace Go.AW.Wir
open Go Go.AW

open Classical in
/-- An item's bytes, or why there are none. -/
noncomputable def encode (i : It) : List UInt8 × Int := if okc i 1 4096 then (match enV (vI i) with | some b => (b, 0) | none => ([], 4)) else ([], 3)
theorem enc_of {i : It} {b : List UInt8} (ho : okc i 1 4096) (h : enV (vI i) = some b) : encode i = (b, 0) := by unfold encode; rw [if_pos ho, h]
theorem enc_bad {i : It} (ho : okc i 1 4096) (h : enV (vI i) = none) : encode i = ([], 4) := by unfold encode; rw [if_pos ho, h]
theorem enc_not {i : It} (ho : ¬ okc i 1 4096) : encode i = ([], 3) := by unfold encode; rw [if_neg ho]
/-- It has bytes just where it may be told and has its form. -/
theorem enc_iff {i : It} : (encode i).2 = 0 ↔ okc i 1 4096 ∧ ∃ b, enV (vI i) = some b := by
  by_cases ho : okc i 1 4096
  · cases h : enV (vI i) with
    | none => rw [enc_bad ho h]; simp
    | some b => rw [enc_of ho h]; simp [ho]
  · rw [enc_not ho]; simp [ho]
theorem enc_eq {i : It} (h : (encode i).2 = 0) : enV (vI i) = some (encode i).1 := by
  obtain ⟨ho, b, hb⟩ := enc_iff.1 h
  rw [hb, enc_of ho hb]
theorem enc_len (i : It) : (encode i).1.length ≤ 16818176 := by
  by_cases ho : okc i 1 4096
  · cases h : enV (vI i) with
    | none => rw [enc_bad ho h]; exact Nat.zero_le _
    | some b =>
      rw [enc_of ho h]
      have h1 := enV_len h
      have h2 := szV_vI ho.2.2
      have h3 := ho.1
      show b.length ≤ _
      omega
  · rw [enc_not ho]; exact Nat.zero_le _
theorem vI_row (l : List It) : vI (.mk 3 0 [] l) = .lst (vL l) := by
  rw [vI, if_neg (by simp), if_neg (by simp), if_neg (by simp)]
theorem cntB2 : cntB 2 = [1, 2] := by rfl

theorem lists_plain (i j : It) (hi : (nI i : Int) ≤ 2000) (hj : (nI j : Int) ≤ 2000) (di : (dI i : Int) ≤ 11) (dj : (dI j : Int) ≤ 11) :
    (((encode i).2 ≠ 0 ∨ (encode j).2 ≠ 0) → (encode (.mk 3 0 [] [i, j])).2 ≠ 0) ∧ ((encode i).2 = 0 → (encode j).2 = 0 → encode (.mk 3 0 [] [i, j]) = (3 :: 1 :: 2 :: ((encode i).1 ++ (encode j).1), 0)) := by
  have hok : okc (.mk 3 0 [] [i, j]) 1 4096 ↔ okc i 1 4096 ∧ okc j 1 4096 := by
    unfold okc
    rw [nI, nL, nL, nL, dI, dL, dL, dL, bigI, bigL, bigL, bigL]
    simp only [List.length_nil, Bool.or_false, Bool.or_eq_false_iff, Bool.and_eq_false_iff]
    constructor
    · rintro ⟨h1, h2, h3, h4, h5⟩
      exact ⟨⟨by omega, by omega, h4⟩, by omega, by omega, h5⟩
    · rintro ⟨⟨h1, h2, h3⟩, h4, h5, h6⟩
      exact ⟨by omega, by omega, .inl (by decide), h3, h6⟩
  have hen : ∀ {a b : List UInt8}, enV (vI i) = some a → enV (vI j) = some b → enV (vI (.mk 3 0 [] [i, j])) = some (3 :: 1 :: 2 :: (a ++ b)) := by
    intro a b ha hb
    rw [vI_row, enV, vL, vL, vL, enL, ha, enL, hb, enL]
    simp [cntB2]
  have hno : (∃ c, enV (vI (.mk 3 0 [] [i, j])) = some c) → (∃ a, enV (vI i) = some a) ∧ ∃ b, enV (vI j) = some b := by
    rintro ⟨c, hc⟩
    rw [vI_row, enV, vL, vL, vL, enL, enL] at hc
    cases ha : enV (vI i) with
    | none => rw [ha] at hc; cases hc
    | some a =>
      cases hb : enV (vI j) with
      | none => rw [ha, hb] at hc; cases hc
      | some b => exact ⟨⟨a, rfl⟩, b, rfl⟩
  refine ⟨fun h h2 => ?_, fun h1 h2 => ?_⟩
  · obtain ⟨ho, hc⟩ := enc_iff.1 h2
    obtain ⟨o1, o2⟩ := hok.1 ho
    obtain ⟨a, b⟩ := hno hc
    rcases h with h | h
    · exact h (enc_iff.2 ⟨o1, a⟩)
    · exact h (enc_iff.2 ⟨o2, b⟩)
  · exact enc_of (hok.2 ⟨(enc_iff.1 h1).1, (enc_iff.1 h2).1⟩) (hen (enc_eq h1) (enc_eq h2))
end Go.AW.Wir
