import Derived.Test.YthkhmgifikknhaaCmdC9
/- Commands: decoding what isn't what it should be. -/
set_option linter.unusedVariables false
set_option linter.unusedSimpArgs false
namespace Go.AW.Cm
open Go Go.AW Go.AW.Wir Go.Proofs
set_option maxRecDepth 10000
set_option pp.maxSteps 60

theorem dec_law0 (s : List UInt8) (hs : s.length ≤ 140737488351232) (h0 : (Wir.decode s).2 = 0) (hno : toC (Wir.decode s).1 = none) : FCv Try.prog 17 [ts s] (.tup [cT zeroC, i64 4]) := by
  have d := decode_law s hs
  obtain ⟨⟨i, e⟩, hi⟩ : ∃ p, Wir.decode s = p := ⟨_, rfl⟩
  rw [hi] at d h0 hno
  dsimp only at d h0 hno
  subst h0
  rw [itT_row] at d
  by_cases hL : i.k ≠ 3 ∨ i.l.length ≠ 5
  · refine FCv_of_defer2 (fn := Try.f17) (g := 34) (gn := Try.f34) Try.func17 rfl rfl rfl rfl rfl rfl rfl Try.func34 rfl rfl (of_decide_eq_true rfl) [2000002, 3000000 + 36] ?_
    conv => whnf
    refine ⟨_, d, ?_⟩
    conv => whnf
    refine .inr ⟨[], _, _, _, list_no i 5 hL, ⟨rfl, trivial, rfl, rfl, trivial⟩, ?_⟩
    conv => whnf
    refine ⟨[0, 1], [.ptr 0 0 0, .ptr 1 0 0], dM zC 0, dM zC 4, dM zC 4, dd_some zC rfl 0, ⟨rfl, ⟨rfl, rfl, trivial⟩, rfl, rfl, d_in rfl rfl zC_flat, d_out _ zC_flat⟩, ?_⟩
    conv => whnf
    exact ⟨.inl rfl, .inl rfl, trivial⟩
  simp only [not_or, Classical.not_not] at hL
  obtain ⟨hk, hl⟩ := hL
  obtain ⟨a, b, c, d', x, hl⟩ := len5 hl
  have h5 := toC_5 hk hl
  rw [hno] at h5
  rw [hk, hl] at d
  have hls := list_ok i.n i.s (itR [a, b, c, d', x]) 5 rfl
  have ok := fun j z kind hj hz => part_ok i.n kind i.s [a, b, c, d', x] j z hj hz
  have no := fun j z kind hj hz => part_no i.n kind i.s [a, b, c, d', x] j z hj hz
  have eL : ∀ q : List T, q = [i64 3, i64 i.n, ts i.s, .sl none 4 (itR [a, b, c, d', x])] → True := fun _ _ => trivial
  obtain ⟨Z, hZ⟩ : ∃ Z, itR [a, b, c, d', x] = Z := ⟨_, rfl⟩
  rw [hZ] at d hls ok no
  refine FCv_of_defer2 (fn := Try.f17) (g := 34) (gn := Try.f34) Try.func17 rfl rfl rfl rfl rfl rfl rfl Try.func34 rfl rfl (of_decide_eq_true rfl) [2000002, 3000000 + 38, 3000000 + 37, 3000000 + 39] ?_
  conv => whnf
  refine ⟨_, d, ?_⟩
  conv => whnf
  refine ⟨_, hls, ?_⟩
  conv => whnf
  by_cases k0 : a.k = 1
  rotate_left
  · refine .inr ⟨[], ?_⟩
    conv => whnf
    refine ⟨_, _, _, no 0 a 1 rfl k0, ⟨rfl, trivial, rfl, rfl, trivial⟩, ?_⟩
    conv => whnf
    refine ⟨[0, 1], [.ptr 0 0 0, .ptr 1 0 0], dM zC 0, dM zC 4, dM zC 4, dd_some zC rfl 0, ⟨rfl, ⟨rfl, rfl, trivial⟩, rfl, rfl, d_in rfl rfl zC_flat, d_out _ zC_flat⟩, ?_⟩
    conv => whnf
    exact ⟨.inl rfl, .inl rfl, trivial⟩
  refine .inl ?_
  conv => whnf
  refine ⟨_, ok 0 a 1 rfl k0, ?_⟩
  conv => whnf
  by_cases ks : small a.n
  rotate_left
  · refine .inr ⟨[], ?_⟩
    conv => whnf
    refine ⟨_, _, _, small_no a ks, ⟨rfl, trivial, rfl, rfl, trivial⟩, ?_⟩
    conv => whnf
    refine ⟨[0, 1], [.ptr 0 0 0, .ptr 1 0 0], dM zC 0, dM zC 4, dM zC 4, dd_some zC rfl 0, ⟨rfl, ⟨rfl, rfl, trivial⟩, rfl, rfl, d_in rfl rfl zC_flat, d_out _ zC_flat⟩, ?_⟩
    conv => whnf
    exact ⟨.inl rfl, .inl rfl, trivial⟩
  refine .inl ?_
  conv => whnf
  refine ⟨_, small_ok a ks, ?_⟩
  conv => whnf
  by_cases k1 : b.k = 2
  rotate_left
  · refine .inr ⟨[], ?_⟩
    conv => whnf
    refine ⟨_, _, _, no 1 b 2 rfl k1, ⟨rfl, trivial, rfl, rfl, trivial⟩, ?_⟩
    conv => whnf
    refine ⟨[0, 1], [.ptr 0 0 0, .ptr 1 0 0], dM zC 0, dM zC 4, dM zC 4, dd_some zC rfl 0, ⟨rfl, ⟨rfl, rfl, trivial⟩, rfl, rfl, d_in rfl rfl zC_flat, d_out _ zC_flat⟩, ?_⟩
    conv => whnf
    exact ⟨.inl rfl, .inl rfl, trivial⟩
  refine .inl ?_
  conv => whnf
  refine ⟨_, ok 1 b 2 rfl k1, ?_⟩
  conv => whnf
  by_cases k2 : c.k = 2
  rotate_left
  · refine .inr ⟨[], ?_⟩
    conv => whnf
    refine ⟨_, _, _, no 2 c 2 rfl k2, ⟨rfl, trivial, rfl, rfl, trivial⟩, ?_⟩
    conv => whnf
    refine ⟨[0, 1], [.ptr 0 0 0, .ptr 1 0 0], dM zC 0, dM zC 4, dM zC 4, dd_some zC rfl 0, ⟨rfl, ⟨rfl, rfl, trivial⟩, rfl, rfl, d_in rfl rfl zC_flat, d_out _ zC_flat⟩, ?_⟩
    conv => whnf
    exact ⟨.inl rfl, .inl rfl, trivial⟩
  refine .inl ?_
  conv => whnf
  refine ⟨_, ok 2 c 2 rfl k2, ?_⟩
  conv => whnf
  by_cases k3 : d'.k = 3
  rotate_left
  · refine .inr ⟨[], ?_⟩
    conv => whnf
    refine ⟨_, _, _, no 3 d' 3 rfl k3, ⟨rfl, trivial, rfl, rfl, trivial⟩, ?_⟩
    conv => whnf
    refine ⟨[0, 1], [.ptr 0 0 0, .ptr 1 0 0], dM zC 0, dM zC 4, dM zC 4, dd_some zC rfl 0, ⟨rfl, ⟨rfl, rfl, trivial⟩, rfl, rfl, d_in rfl rfl zC_flat, d_out _ zC_flat⟩, ?_⟩
    conv => whnf
    exact ⟨.inl rfl, .inl rfl, trivial⟩
  refine .inl ?_
  conv => whnf
  refine ⟨_, ok 3 d' 3 rfl k3, ?_⟩
  conv => whnf
  obtain hv | ⟨v, hv⟩ : toV d' = none ∨ ∃ v, toV d' = some v := by cases toV d' <;> simp
  · refine .inr ⟨[], ?_⟩
    conv => whnf
    refine ⟨_, _, _, vecOf_no d' hv, ⟨rfl, trivial, rfl, rfl, trivial⟩, ?_⟩
    conv => whnf
    refine ⟨[0, 1], [.ptr 0 0 0, .ptr 1 0 0], dM zC 0, dM zC 4, dM zC 4, dd_some zC rfl 0, ⟨rfl, ⟨rfl, rfl, trivial⟩, rfl, rfl, d_in rfl rfl zC_flat, d_out _ zC_flat⟩, ?_⟩
    conv => whnf
    exact ⟨.inl rfl, .inl rfl, trivial⟩
  refine .inl ?_
  conv => whnf
  refine ⟨_, vecOf_ok d' v hv, ?_⟩
  conv => whnf
  by_cases k4 : x.k = 1
  rotate_left
  · refine .inr ⟨[], ?_⟩
    conv => whnf
    refine ⟨_, _, _, no 4 x 1 rfl k4, ⟨rfl, trivial, rfl, rfl, trivial⟩, ?_⟩
    conv => whnf
    refine ⟨[0, 1], [.ptr 0 0 0, .ptr 1 0 0], dM zC 0, dM zC 4, dM zC 4, dd_some zC rfl 0, ⟨rfl, ⟨rfl, rfl, trivial⟩, rfl, rfl, d_in rfl rfl zC_flat, d_out _ zC_flat⟩, ?_⟩
    conv => whnf
    exact ⟨.inl rfl, .inl rfl, trivial⟩
  rw [if_pos ⟨k0, ks, k1, k2, k4⟩, hv] at h5
  cases h5
theorem dec_law (s : List UInt8) (hs : s.length ≤ 140737488351232) : FCv Try.prog 17 [ts s] (.tup [cT (decC s).1, i64 (decC s).2]) := by
  by_cases h : (Wir.decode s).2 = 0 ∧ toC (Wir.decode s).1 = none
  · have h2 := dec_law0 s hs h.1 h.2
    have : decC s = (zeroC, 4) := by unfold decC; rw [if_pos h.1, h.2]
    rw [this]
    exact h2
  · exact dec_law1 s hs (fun h1 h2 => h ⟨h1, h2⟩)
end Go.AW.Cm

/- Replies: decoding what isn't what it should be. -/
set_option linter.unusedVariables false
set_option linter.unusedSimpArgs false
namespace Go.AW.Cm
open Go Go.AW Go.AW.Wir Go.Proofs
set_option maxRecDepth 10000
set_option pp.maxSteps 60

theorem toR_4 {i a b d x : It} (hk : i.k = 3) (hl : i.l = [a, b, d, x]) : toR i = if a.k = 1 ∧ small a.n ∧ b.k = 2 ∧ x.k = 1 then (match toV d with | some v => some ⟨a.n, b.s, v, x.n⟩ | none => none) else none := by
  obtain ⟨k, n, s, l⟩ := i
  have hk : k = 3 := hk
  have hl : l = [a, b, d, x] := hl
  subst hk hl
  simp only [toR, if_true, toN_eq, toS_eq]
  by_cases h1 : a.k = 1
  · by_cases h2 : b.k = 2
    · by_cases h4 : x.k = 1
      · by_cases h5 : small a.n
        · simp only [if_pos h1, if_pos h2, if_pos h4, if_pos h5, if_pos (⟨h1, h5, h2, h4⟩ : a.k = 1 ∧ small a.n ∧ b.k = 2 ∧ x.k = 1)]
          cases toV d with
          | none => rfl
          | some v => exact if_pos h5
        · simp only [if_pos h1, if_pos h2, if_pos h4, if_neg h5, if_neg (show ¬ (a.k = 1 ∧ small a.n ∧ b.k = 2 ∧ x.k = 1) from fun e => h5 e.2.1)]
          cases toV d with
          | none => rfl
          | some v => exact if_neg h5
      · simp only [if_neg h4, if_neg (show ¬ (a.k = 1 ∧ small a.n ∧ b.k = 2 ∧ x.k = 1) from fun e => h4 e.2.2.2)]
        rw [if_pos h1, if_pos h2]
        cases toV d <;> rfl
    · simp only [if_neg h2, if_neg (show ¬ (a.k = 1 ∧ small a.n ∧ b.k = 2 ∧ x.k = 1) from fun e => h2 e.2.2.1)]
      rw [if_pos h1]
  · simp only [if_neg h1, if_neg (show ¬ (a.k = 1 ∧ small a.n ∧ b.k = 2 ∧ x.k = 1) from fun e => h1 e.1)]
theorem toR_l2 {i : It} (h : i.k ≠ 3 ∨ i.l.length ≠ 4) : toR i = none := by
  cases hc : toR i with
  | none => rfl
  | some c =>
    exfalso
    unfold toR at hc
    split at hc
    · split at hc
      · rename_i hk; exact h.elim (fun h => h hk) (fun h => h rfl)
      · cases hc
    · cases hc
theorem unp_law0 (s : List UInt8) (hs : s.length ≤ 140737488351232) (h0 : (Wir.decode s).2 = 0) (hno : toR (Wir.decode s).1 = none) : FCv Try.prog 19 [ts s] (.tup [rT zeroR, i64 4]) := by
  have d := decode_law s hs
  obtain ⟨⟨i, e⟩, hi⟩ : ∃ p, Wir.decode s = p := ⟨_, rfl⟩
  rw [hi] at d h0 hno
  dsimp only at d h0 hno
  subst h0
  rw [itT_row] at d
  by_cases hL : i.k ≠ 3 ∨ i.l.length ≠ 4
  · refine FCv_of_defer2 (fn := Try.f19) (g := 42) (gn := Try.f42) Try.func19 rfl rfl rfl rfl rfl rfl rfl Try.func42 rfl rfl (of_decide_eq_true rfl) [2000002, 3000000 + 36] ?_
    conv => whnf
    refine ⟨_, d, ?_⟩
    conv => whnf
    refine .inr ⟨[], _, _, _, list_no i 4 hL, ⟨rfl, trivial, rfl, rfl, trivial⟩, ?_⟩
    conv => whnf
    refine ⟨[0, 1], [.ptr 0 0 0, .ptr 1 0 0], rM zRp 0, rM zRp 4, rM zRp 4, dr_some zRp rfl 0, ⟨rfl, ⟨rfl, rfl, trivial⟩, rfl, rfl, r_in rfl rfl zR_flat, r_out _ zR_flat⟩, ?_⟩
    conv => whnf
    exact ⟨.inl rfl, .inl rfl, trivial⟩
  simp only [not_or, Classical.not_not] at hL
  obtain ⟨hk, hl⟩ := hL
  obtain ⟨a, b, d', x, hl⟩ := len4 hl
  have h5 := toR_4 hk hl
  rw [hno] at h5
  rw [hk, hl] at d
  have hls := list_ok i.n i.s (itR [a, b, d', x]) 4 rfl
  have ok := fun j z kind hj hz => part_ok i.n kind i.s [a, b, d', x] j z hj hz
  have no := fun j z kind hj hz => part_no i.n kind i.s [a, b, d', x] j z hj hz
  have eL : ∀ q : List T, q = [i64 3, i64 i.n, ts i.s, .sl none 4 (itR [a, b, d', x])] → True := fun _ _ => trivial
  obtain ⟨Z, hZ⟩ : ∃ Z, itR [a, b, d', x] = Z := ⟨_, rfl⟩
  rw [hZ] at d hls ok no
  refine FCv_of_defer2 (fn := Try.f19) (g := 42) (gn := Try.f42) Try.func19 rfl rfl rfl rfl rfl rfl rfl Try.func42 rfl rfl (of_decide_eq_true rfl) [2000002, 3000000 + 38, 3000000 + 37, 3000000 + 39] ?_
  conv => whnf
  refine ⟨_, d, ?_⟩
  conv => whnf
  refine ⟨_, hls, ?_⟩
  conv => whnf
  by_cases k0 : a.k = 1
  rotate_left
  · refine .inr ⟨[], ?_⟩
    conv => whnf
    refine ⟨_, _, _, no 0 a 1 rfl k0, ⟨rfl, trivial, rfl, rfl, trivial⟩, ?_⟩
    conv => whnf
    refine ⟨[0, 1], [.ptr 0 0 0, .ptr 1 0 0], rM zRp 0, rM zRp 4, rM zRp 4, dr_some zRp rfl 0, ⟨rfl, ⟨rfl, rfl, trivial⟩, rfl, rfl, r_in rfl rfl zR_flat, r_out _ zR_flat⟩, ?_⟩
    conv => whnf
    exact ⟨.inl rfl, .inl rfl, trivial⟩
  refine .inl ?_
  conv => whnf
  refine ⟨_, ok 0 a 1 rfl k0, ?_⟩
  conv => whnf
  by_cases ks : small a.n
  rotate_left
  · refine .inr ⟨[], ?_⟩
    conv => whnf
    refine ⟨_, _, _, small_no a ks, ⟨rfl, trivial, rfl, rfl, trivial⟩, ?_⟩
    conv => whnf
    refine ⟨[0, 1], [.ptr 0 0 0, .ptr 1 0 0], rM zRp 0, rM zRp 4, rM zRp 4, dr_some zRp rfl 0, ⟨rfl, ⟨rfl, rfl, trivial⟩, rfl, rfl, r_in rfl rfl zR_flat, r_out _ zR_flat⟩, ?_⟩
    conv => whnf
    exact ⟨.inl rfl, .inl rfl, trivial⟩
  refine .inl ?_
  conv => whnf
  refine ⟨_, small_ok a ks, ?_⟩
  conv => whnf
  by_cases k1 : b.k = 2
  rotate_left
  · refine .inr ⟨[], ?_⟩
    conv => whnf
    refine ⟨_, _, _, no 1 b 2 rfl k1, ⟨rfl, trivial, rfl, rfl, trivial⟩, ?_⟩
    conv => whnf
    refine ⟨[0, 1], [.ptr 0 0 0, .ptr 1 0 0], rM zRp 0, rM zRp 4, rM zRp 4, dr_some zRp rfl 0, ⟨rfl, ⟨rfl, rfl, trivial⟩, rfl, rfl, r_in rfl rfl zR_flat, r_out _ zR_flat⟩, ?_⟩
    conv => whnf
    exact ⟨.inl rfl, .inl rfl, trivial⟩
  refine .inl ?_
  conv => whnf
  refine ⟨_, ok 1 b 2 rfl k1, ?_⟩
  conv => whnf
  by_cases k2 : d'.k = 3
  rotate_left
  · refine .inr ⟨[], ?_⟩
    conv => whnf
    refine ⟨_, _, _, no 2 d' 3 rfl k2, ⟨rfl, trivial, rfl, rfl, trivial⟩, ?_⟩
    conv => whnf
    refine ⟨[0, 1], [.ptr 0 0 0, .ptr 1 0 0], rM zRp 0, rM zRp 4, rM zRp 4, dr_some zRp rfl 0, ⟨rfl, ⟨rfl, rfl, trivial⟩, rfl, rfl, r_in rfl rfl zR_flat, r_out _ zR_flat⟩, ?_⟩
    conv => whnf
    exact ⟨.inl rfl, .inl rfl, trivial⟩
  refine .inl ?_
  conv => whnf
  refine ⟨_, ok 2 d' 3 rfl k2, ?_⟩
  conv => whnf
  obtain hv | ⟨v, hv⟩ : toV d' = none ∨ ∃ v, toV d' = some v := by cases toV d' <;> simp
  · refine .inr ⟨[], ?_⟩
    conv => whnf
    refine ⟨_, _, _, vecOf_no d' hv, ⟨rfl, trivial, rfl, rfl, trivial⟩, ?_⟩
    conv => whnf
    refine ⟨[0, 1], [.ptr 0 0 0, .ptr 1 0 0], rM zRp 0, rM zRp 4, rM zRp 4, dr_some zRp rfl 0, ⟨rfl, ⟨rfl, rfl, trivial⟩, rfl, rfl, r_in rfl rfl zR_flat, r_out _ zR_flat⟩, ?_⟩
    conv => whnf
    exact ⟨.inl rfl, .inl rfl, trivial⟩
  refine .inl ?_
  conv => whnf
  refine ⟨_, vecOf_ok d' v hv, ?_⟩
  conv => whnf
  by_cases k3 : x.k = 1
  rotate_left
  · refine .inr ⟨[], ?_⟩
    conv => whnf
    refine ⟨_, _, _, no 3 x 1 rfl k3, ⟨rfl, trivial, rfl, rfl, trivial⟩, ?_⟩
    conv => whnf
    refine ⟨[0, 1], [.ptr 0 0 0, .ptr 1 0 0], rM zRp 0, rM zRp 4, rM zRp 4, dr_some zRp rfl 0, ⟨rfl, ⟨rfl, rfl, trivial⟩, rfl, rfl, r_in rfl rfl zR_flat, r_out _ zR_flat⟩, ?_⟩
    conv => whnf
    exact ⟨.inl rfl, .inl rfl, trivial⟩
  rw [if_pos ⟨k0, ks, k1, k3⟩, hv] at h5
  cases h5
theorem unp_law (s : List UInt8) (hs : s.length ≤ 140737488351232) : FCv Try.prog 19 [ts s] (.tup [rT (decR s).1, i64 (decR s).2]) := by
  by_cases h : (Wir.decode s).2 = 0 ∧ toR (Wir.decode s).1 = none
  · have h2 := unp_law0 s hs h.1 h.2
    have : decR s = (zeroR, 4) := by unfold decR; rw [if_pos h.1, h.2]
    rw [this]
    exact h2
  · exact unp_law1 s hs (fun h1 h2 => h ⟨h1, h2⟩)
end Go.AW.Cm
