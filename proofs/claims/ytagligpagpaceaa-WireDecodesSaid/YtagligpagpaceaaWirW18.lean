import Derived.Test.YtagligpagpaceaaWirW17
/- The wire: the reference's decoding, and WireDecodes. -/
set_option linter.unusedVariables false
set_option linter.unusedSimpArgs false
namespace Go.AW.Wir
open Go Go.AW Go.Proofs
set_option maxRecDepth 10000
set_option pp.maxSteps 60

theorem ritem_laws (b : List UInt8) (hb : b.length ≤ 140737488351232) : ∀ f, RItemOk b f
  | 0 => ritem_law0 b
  | f + 1 => ritem_law1 b hb f (ritem_laws b hb f)
theorem decode_r (b : List UInt8) : decode b = if (ritem b 12 4096 0).2.2.2 = true ∨ (ritem b 12 4096 0).2.2.1 < b.length then (noIt, 4) else ((ritem b 12 4096 0).1, 0) := by
  have h := ritem_dec (b := b) 12 4096 0 (Nat.zero_le _)
  rw [List.drop_zero] at h
  unfold decode
  cases hd : dec 12 4096 b with
  | none =>
    rw [hd] at h
    dsimp only at h ⊢
    rw [if_pos (.inl h)]
  | some p =>
    obtain ⟨i, l, r⟩ := p
    rw [hd] at h
    obtain ⟨a', g1, g2, g3⟩ := h
    rw [g3]
    dsimp only
    cases r with
    | nil =>
      have : b.length ≤ a' := List.drop_eq_nil_iff.1 g2.symm
      rw [if_neg (by simp; omega)]
    | cons x r =>
      have : a' < b.length := by
        refine Nat.lt_of_not_le fun h => ?_
        rw [List.drop_of_length_le h] at g2
        cases g2
      rw [if_pos (.inr this)]
theorem rdecode_law (b : List UInt8) (hb : b.length ≤ 140737488351232) : FCv Try.prog 9 [.sl none 1 (bytesR b)] (.tup [itT (decode b).1, i64 (decode b).2]) := by
  have h1 := ritem_laws b hb 12 1 4096 0 (by decide) (by decide) (by decide) (by decide) (Nat.zero_le _)
  have hr := ritem_rng (b := b) 12 4096 0 (by decide) (Nat.zero_le _)
  rw [decode_r]
  obtain ⟨⟨i, left, a, bad⟩, hR⟩ : ∃ p, ritem b 12 4096 0 = p := ⟨_, rfl⟩
  rw [hR] at h1 hr ⊢
  dsimp only at h1 hr ⊢
  refine FCv_of_awp (fn := Try.f9) (c := bodyC Try.f9) Try.func9 rfl (of_decide_eq_true rfl) [1000000 + 20] ?_
  conv => whnf
  refine ⟨[1], _, _, _, _, [(1, .own 4 [[.sl none 1 (bytesR b), i64 (a : Int), i64 left, tb bad]])], _, h1, ⟨rfl, ⟨rfl, trivial⟩, rfl, rfl, rr_in rfl, rfl, rfl, rr_out _ _ _ _ _ _⟩, ?_⟩
  conv => whnf
  have hno : ∀ c, c = true ∨ a < b.length → (if c = true ∨ a < b.length then ((noIt, 4) : It × Int) else (i, 0)) = (noIt, 4) := fun c h => if_pos h
  cases bad with
  | true =>
    conv => whnf
    rw [hno _ (.inl rfl)]
    exact ⟨.inr (.inr (.inr ⟨.inl rfl, .inl rfl, .inl rfl, .inr (.inl ⟨rfl, 4, rfl⟩), trivial⟩)), .inl rfl, trivial⟩
  | false =>
    conv => whnf
    rw [bytesR_len]
    refine br_intro (fun h => ?_) (fun h => ?_) <;> (rw [h]; conv => whnf)
    · have h' := of_decide_eq_true h
      rw [hno _ (.inr (by omega))]
      exact ⟨.inr (.inr (.inr ⟨.inl rfl, .inl rfl, .inl rfl, .inr (.inl ⟨rfl, 4, rfl⟩), trivial⟩)), .inl rfl, trivial⟩
    · have h' := of_decide_eq_false h
      rw [if_neg (by simp; omega)]
      exact ⟨.inl rfl, .inl rfl, trivial⟩

theorem inI_no : inI noIt := by unfold noIt; rw [inI, inIs]; exact ⟨⟨by decide, by simp⟩, trivial⟩
theorem unzig_rng (n : Nat) (h : n < 18446744073709551616) : -9223372036854775808 ≤ unzig n ∧ unzig n ≤ 9223372036854775807 := by
  unfold unzig
  split <;> omega
theorem decL_in {f : Nat} (ih : ∀ {left l : Int} {b r : List UInt8} {i : It}, dec f left b = some (i, l, r) → inI i) : ∀ (n : Nat) {left l : Int} {b r : List UInt8} {o : List It}, decL f n left b = some (o, l, r) → inIs o ∧ o.length = n
  | 0, left, l, b, r, o, h => by rw [decL_zero] at h; cases h; rw [inIs]; exact ⟨trivial, rfl⟩
  | n + 1, left, l, b, r, o, h => by
    rw [decL_succ] at h
    cases hd : dec f left b with
    | none => rw [hd] at h; cases h
    | some p =>
      obtain ⟨i, l1, r1⟩ := p
      rw [hd] at h
      dsimp only at h
      cases hl : decL f n l1 r1 with
      | none => rw [hl] at h; cases h
      | some q =>
        obtain ⟨o2, l2, r2⟩ := q
        rw [hl] at h
        cases h
        obtain ⟨g1, g2⟩ := decL_in ih n hl
        rw [inIs]
        exact ⟨⟨ih hd, g1⟩, by rw [List.length_cons, g2]⟩
theorem dec_in : ∀ {f : Nat} {left l : Int} {b r : List UInt8} {i : It}, dec f left b = some (i, l, r) → inI i
  | 0, left, l, b, r, i, h => by rw [dec_zero] at h; cases h
  | f + 1, left, l, b, r, i, h => by
    cases b with
    | nil => rw [dec_nil] at h; cases h
    | cons k t =>
      rw [dec_cons] at h
      split at h
      · cases h
      split at h
      · split at h
        · cases h
        · rename_i hc
          cases h
          rw [inI, inIs]
          exact ⟨⟨unzig_rng _ (cnt_lt hc).1, by simp⟩, trivial⟩
      · split at h
        · split at h
          · cases h
          · split at h
            · cases h
            · cases h
              rw [inI, inIs]
              exact ⟨⟨by decide, by simp⟩, trivial⟩
        · split at h
          · split at h
            · cases h
            · rename_i hc
              split at h
              · cases h
              · rename_i hd
                cases h
                obtain ⟨g1, g2⟩ := decL_in (fun h => dec_in h) _ hd
                have := (siz_lt hc).1
                rw [inI]
                exact ⟨⟨by decide, by omega⟩, g1⟩
          · cases h
theorem decode_in (b : List UInt8) : inI (decode b).1 := by
  unfold decode
  split
  · rename_i h; exact dec_in h
  · exact inI_no
theorem decodes_law (b : List UInt8) (hb : b.length ≤ 140737488351232) : FCv Try.prog 3 [.sl none 1 (bytesR b)] (tb true) := by
  have d1 := decode_law b hb
  have d2 := rdecode_law b hb
  obtain ⟨⟨i, e⟩, hd⟩ : ∃ p, decode b = p := ⟨_, rfl⟩
  rw [hd] at d1 d2
  have hin : inI i := by have := decode_in b; rwa [hd] at this
  have hs := same_law i i hin
  dsimp only at d1 d2
  rw [itT_row] at d1 d2 hs
  refine FCv_of_awp (fn := Try.f3) (c := bodyC Try.f3) Try.func3 rfl (of_decide_eq_true rfl) [] ?_
  conv => whnf
  refine ⟨_, awake_law, ?_⟩
  conv => whnf
  have nb : (Try.prog.types[5]).bytes = 1 := rfl
  refine ⟨rfl, by rw [bytesR_len, nb]; show (0 + b.length) * 1 ≤ _; omega, by rw [bytesR_len]; show 0 + b.length ≤ _; omega, ?_⟩
  conv => whnf
  refine ⟨_, d1, ?_⟩
  conv => whnf
  refine ⟨_, d2, ?_⟩
  conv => whnf
  refine ⟨_, hs, ?_⟩
  conv => whnf
  rw [dt rfl]
  conv => whnf
  rw [bq rfl]
  conv => whnf
  refine ⟨b, ⟨rfl, rfl⟩, ?_⟩
  conv => whnf
  refine ⟨b, ⟨rfl, rfl⟩, ?_⟩
  conv => whnf
  exact .inl (congrArg tb (beq_self_eq_true _))
end Go.AW.Wir
