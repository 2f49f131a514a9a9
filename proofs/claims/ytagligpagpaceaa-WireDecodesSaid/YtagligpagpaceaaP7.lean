import Derived.Test.YtagligpagpaceaaP6
/- What is decoded is encoded again; plain. -/
set_option linter.unusedVariables false
set_option linter.unusedSimpArgs false
namespace Go.AW.Wir
open Go Go.AW

/-- What is told of an item that was read. -/
def Bk (f : Nat) (left left' : Int) (b r : List UInt8) (i : It) : Prop :=
  (∃ e, enV (vI i) = some e ∧ b = e ++ r) ∧ (nI i : Int) = left - left' ∧ dI i ≤ f ∧ bigI i = false ∧ 0 ≤ left'
def BkL (f : Nat) (left left' : Int) (b r : List UInt8) (l : List It) : Prop :=
  (∃ e, enL (vL l) = some e ∧ b = e ++ r) ∧ (nL l : Int) = left - left' ∧ dL l ≤ f ∧ bigL l = false
theorem decL_back {f : Nat} (ih : ∀ {left left' : Int} {b r : List UInt8} {i : It}, dec f left b = some (i, left', r) → Bk f left left' b r i) :
    ∀ (n : Nat) {left left' : Int} {b r : List UInt8} {l : List It}, decL f n left b = some (l, left', r) → BkL f left left' b r l ∧ l.length = n ∧ (0 ≤ left → 0 ≤ left')
  | 0, left, left', b, r, l, h => by
    rw [decL_zero] at h
    cases h
    refine ⟨⟨⟨[], by rw [vL, enL], rfl⟩, by rw [nL]; omega, by rw [dL]; omega, by rw [bigL]⟩, rfl, id⟩
  | n + 1, left, left', b, r, l, h => by
    rw [decL_succ] at h
    cases hd : dec f left b with
    | none => rw [hd] at h; cases h
    | some p =>
      obtain ⟨i, a, q⟩ := p
      obtain ⟨⟨e, he, hb⟩, h2, h3, h4, h0⟩ := ih hd
      rw [hd] at h
      dsimp only at h
      cases hl : decL f n a q with
      | none => rw [hl] at h; cases h
      | some p =>
        obtain ⟨l', a', q'⟩ := p
        rw [hl] at h
        cases h
        obtain ⟨⟨⟨e', he', hb'⟩, g2, g3, g4⟩, g5, g6⟩ := decL_back ih n hl
        refine ⟨⟨⟨e ++ e', by rw [vL, enL, he, he'], by rw [hb, hb', List.append_assoc]⟩, by rw [nL]; omega, by rw [dL]; omega, by rw [bigL, h4, g4]; rfl⟩, by rw [List.length_cons, g5], fun _ => g6 h0⟩
theorem dec_back : ∀ {f : Nat} {left left' : Int} {b r : List UInt8} {i : It}, dec f left b = some (i, left', r) → Bk f left left' b r i
  | 0, left, left', b, r, i, h => by rw [dec_zero] at h; cases h
  | f + 1, left, left', b, r, i, h => by
    cases b with
    | nil => rw [dec_nil] at h; cases h
    | cons k t =>
      rw [dec_cons] at h
      split at h
      · cases h
      rename_i hl
      split at h
      · rename_i hk
        split at h
        · cases h
        · rename_i n q hc
          cases h
          refine ⟨⟨1 :: cntB n, ?_, by rw [hk, List.cons_append, ← cnt_back hc]⟩, by rw [nI, nL]; omega, by rw [dI, dL]; omega, ?_, by omega⟩
          · rw [vI, if_pos ⟨rfl, rfl, rfl⟩, enV, zig_unzig]
          · rw [bigI, bigL]; rfl
      · split at h
        · rename_i hk
          split at h
          · cases h
          · rename_i n q hc
            split at h
            · cases h
            · rename_i hn
              cases h
              obtain ⟨g1, g2⟩ := siz_back hc
              have hlen : (q.take n).length = n := by rw [List.length_take]; omega
              refine ⟨⟨2 :: cntB n ++ q.take n, ?_, by rw [hk, g1]; simp⟩, by rw [nI, nL]; omega, by rw [dI, dL]; omega, ?_, by omega⟩
              · rw [vI, if_neg (by simp), if_pos ⟨rfl, rfl, rfl⟩, enV, hlen]
              · rw [bigI, bigL, hlen, decide_eq_false (by omega)]; rfl
        · split at h
          · rename_i hk
            split at h
            · cases h
            · rename_i n q hc
              split at h
              · cases h
              · rename_i l a q' hd
                cases h
                obtain ⟨g1, g2⟩ := siz_back hc
                obtain ⟨⟨⟨e, he, hb⟩, k2, k3, k4⟩, k5, k6⟩ := decL_back (fun h => dec_back h) _ hd
                refine ⟨⟨3 :: cntB n ++ e, ?_, by rw [hk, g1, hb]; simp⟩, by rw [nI]; omega, by rw [dI]; omega, ?_, k6 (by omega)⟩
                · rw [vI_row, enV, he, vL_map, List.length_map, k5]
                · rw [bigI, k4]; rfl
          · cases h
/-- An item that was decoded has the bytes that it was decoded of. -/
theorem dec_enc {b : List UInt8} {i : It} {left : Int} (h : dec 12 4096 b = some (i, left, [])) : encode i = (b, 0) := by
  obtain ⟨⟨e, he, hb⟩, h1, h2, h3, h4⟩ := dec_back h
  rw [List.append_nil] at hb
  subst hb
  exact enc_of ⟨by omega, by omega, h3⟩ he
end Go.AW.Wir
