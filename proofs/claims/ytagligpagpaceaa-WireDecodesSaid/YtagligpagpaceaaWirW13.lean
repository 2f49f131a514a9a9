import Derived.Test.YtagligpagpaceaaWirW12
/- The wire: a list's bytes are its items'. -/
set_option linter.unusedVariables false
set_option linter.unusedSimpArgs false
namespace Go.AW.Wir
open Go Go.AW Go.Proofs
set_option maxRecDepth 10000
set_option pp.maxSteps 60

theorem row_in {l : List It} (h : inIs l) (hl : l.length ≤ 9223372036854775807) : inI (.mk 3 0 [] l) := by
  rw [inI]
  exact ⟨⟨by decide, hl⟩, h⟩
theorem cmp_lists {a b l : List UInt8} (h : l = 3 :: 1 :: 2 :: (a ++ b)) : (ByteArray.toList ⟨l.toArray⟩ == ByteArray.toList ((⟨#[3, 1, 2]⟩ : ByteArray) ++ ⟨a.toArray⟩ ++ ⟨b.toArray⟩)) = true := by
  rw [ByteArray.toList_eq, ByteArray.toList_eq, ByteArray.data_append, ByteArray.data_append, Array.toList_append, Array.toList_append, beq_iff_eq, h]
  rfl

theorem lists_law (i j : It) (hi : inI i) (hj : inI j) : FCv Try.prog 4 [itT i, itT j] (tb true) := by
  have n1 := items_law i 2000 1 (by decide) (by decide) (by decide) (by decide)
  have n2 := items_law j 2000 1 (by decide) (by decide) (by decide) (by decide)
  have t1 := itN_true i 2000 1 (by decide) (by decide)
  have t2 := itN_true j 2000 1 (by decide) (by decide)
  obtain ⟨⟨p1, p2⟩, hp⟩ : ∃ p, itN i 2000 1 = p := ⟨_, rfl⟩
  obtain ⟨⟨q1, q2⟩, hq⟩ : ∃ p, itN j 2000 1 = p := ⟨_, rfl⟩
  rw [hp] at n1 t1
  rw [hq] at n2 t2
  have x1 := texts_law i hi
  have x2 := texts_law j hj
  obtain ⟨⟨w1, w2⟩, hw⟩ : ∃ p, wiN i 100 10000 = p := ⟨_, rfl⟩
  obtain ⟨⟨u1, u2⟩, hu⟩ : ∃ p, wiN j 100 10000 = p := ⟨_, rfl⟩
  rw [hw] at x1
  rw [hu] at x2
  have e1 := encode_law i hi
  have e2 := encode_law j hj
  have e3 := encode_law (.mk 3 0 [] [i, j]) (row_in (by rw [inIs, inIs, inIs]; exact ⟨hi, hj, trivial⟩) (by simp))
  have hpl := lists_plain i j
  have la := enc_len i
  have lb := enc_len j
  obtain ⟨⟨a, ea⟩, hA⟩ : ∃ p, encode i = p := ⟨_, rfl⟩
  obtain ⟨⟨b, eb⟩, hB⟩ : ∃ p, encode j = p := ⟨_, rfl⟩
  obtain ⟨⟨l, el⟩, hL⟩ : ∃ p, encode (.mk 3 0 [] [i, j]) = p := ⟨_, rfl⟩
  rw [hA] at e1 hpl la
  rw [hB] at e2 hpl lb
  rw [hL] at e3 hpl
  have r := row_law [i, j]
  rw [itT_mk] at r e3
  rw [show itR [i, j] = [itC i, itC j] from rfl] at r e3
  rw [itC_eq, itC_eq] at r e3
  rw [itT_row] at n1 n2 x1 x2 e1 e2 ⊢
  rw [itT_row j]
  dsimp only at n1 n2 t1 t2 x1 x2 e1 e2 e3 hpl la lb
  refine FCv_of_awp (fn := Try.f4) (c := bodyC Try.f4) Try.func4 rfl (of_decide_eq_true rfl) [] ?_
  conv => whnf
  refine ⟨_, awake_law, ?_⟩
  conv => whnf
  refine ⟨_, n1, ?_⟩
  conv => whnf
  refine ⟨_, n2, ?_⟩
  conv => whnf
  refine br_intro (fun h1 => ?_) (fun h1 => ?_) <;> (rw [h1]; conv => whnf)
  · exact .inl rfl
  refine br_intro (fun h2 => ?_) (fun h2 => ?_) <;> (rw [h2]; conv => whnf)
  · exact .inl rfl
  refine br_intro (fun h3 => ?_) (fun h3 => ?_) <;> (rw [h3]; conv => whnf)
  · exact .inl rfl
  refine br_intro (fun h4 => ?_) (fun h4 => ?_) <;> (rw [h4]; conv => whnf)
  · exact .inl rfl
  refine ⟨_, x1, ?_⟩
  conv => whnf
  refine br_intro (fun h5 => ?_) (fun h5 => ?_) <;> (rw [h5]; conv => whnf)
  · exact .inl rfl
  refine ⟨_, x2, ?_⟩
  conv => whnf
  refine br_intro (fun h6 => ?_) (fun h6 => ?_) <;> (rw [h6]; conv => whnf)
  · exact .inl rfl
  replace h1 := of_decide_eq_false h1
  replace h2 := of_decide_eq_false h2
  replace h3 := of_decide_eq_false h3
  replace h4 := of_decide_eq_false h4
  obtain ⟨g1, g2⟩ := t1 (by omega) (by omega)
  obtain ⟨g3, g4⟩ := t2 (by omega) (by omega)
  obtain ⟨k1, k2⟩ := hpl (by omega) (by omega) (by omega) (by omega)
  refine ⟨_, e1, ?_⟩
  conv => whnf
  refine ⟨_, e2, ?_⟩
  conv => whnf
  refine ⟨_, r, ?_⟩
  conv => whnf
  refine ⟨_, e3, ?_⟩
  conv => whnf
  by_cases z1 : ea = 0
  · rw [qq z1]
    conv => whnf
    by_cases z2 : eb = 0
    · rw [qq z2]
      conv => whnf
      have hl := k2 z1 z2
      rw [Prod.mk.injEq] at hl
      rw [bq hl.2]
      conv => whnf
      refine ⟨l, ⟨rfl, rfl⟩, ?_⟩
      conv => whnf
      refine ⟨a, ⟨rfl, rfl⟩, ?_⟩
      conv => whnf
      refine ⟨by show 3 + a.length ≤ _; omega, ?_⟩
      conv => whnf
      refine ⟨b, ⟨rfl, rfl⟩, ?_⟩
      conv => whnf
      refine ⟨by show ((⟨#[3, 1, 2]⟩ : ByteArray) ++ ⟨a.toArray⟩).size + b.length ≤ _; rw [ByteArray.size_append]; show 3 + a.length + b.length ≤ _; omega, ?_⟩
      conv => whnf
      exact .inl (congrArg tb (cmp_lists hl.1))
    · rw [qn z2]
      conv => whnf
      exact .inl (congrArg tb (qn (k1 (.inr z2))))
  · rw [qn z1]
    conv => whnf
    exact .inl (congrArg tb (qn (k1 (.inl z1))))
end Go.AW.Wir
