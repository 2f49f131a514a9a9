import Derived.Test.YthkhmgifikknhaaCmdC13
/- Commands and replies: decoded as the reference says; there and back. -/
set_option linter.unusedVariables false
set_option linter.unusedSimpArgs false
namespace Go.AW.Cm
open Go Go.AW Go.AW.Wir Go.Proofs
set_option maxRecDepth 10000
set_option pp.maxSteps 60

theorem CmdDecodes_law (s : List UInt8) (hs : s.length ≤ 140737488351232) : FCv Try.prog 4 [ts s] (tb true) := by
  have k1 := dec_law s hs
  have k2 := rdec_law s hs
  have k3 := unp_law s hs
  have k4 := runp_law s hs
  obtain ⟨⟨c, e⟩, h1⟩ : ∃ p, decC s = p := ⟨_, rfl⟩
  obtain ⟨⟨r, f⟩, h2⟩ : ∃ p, decR s = p := ⟨_, rfl⟩
  rw [h1] at k1 k2
  rw [h2] at k3 k4
  unfold cT at *
  unfold rT at *
  dsimp only at k1 k2 k3 k4
  refine FCv_of_awp (fn := Try.f4) (c := bodyC Try.f4) Try.func4 rfl (of_decide_eq_true rfl) [] ?_
  conv => whnf
  refine ⟨_, awake_law, ?_⟩
  conv => whnf
  refine ⟨_, k1, ?_⟩
  conv => whnf
  refine ⟨_, k2, ?_⟩
  conv => whnf
  refine ⟨_, k3, ?_⟩
  conv => whnf
  refine ⟨_, k4, ?_⟩
  conv => whnf
  refine ⟨cV c, cV c, rfl, rfl, cmdEq _ _ c c ?_⟩
  rw [decide_eq_true rfl]
  conv => whnf
  rw [bq rfl]
  conv => whnf
  refine ⟨rV r, rV r, rfl, rfl, repEq _ _ r r ?_⟩
  rw [decide_eq_true rfl]
  conv => whnf
  exact .inl (congrArg tb (bq rfl))

theorem encC_len {c : Cmd} {s : List UInt8} (h : encC c = (s, 0)) : s.length ≤ 140737488351232 := by
  obtain ⟨h1, rfl⟩ := encC_may h
  have := enc_len (itemC c)
  rw [encode_cmd h1] at this
  dsimp only at this
  omega
theorem encR_len {c : Rep} {s : List UInt8} (h : encR c = (s, 0)) : s.length ≤ 140737488351232 := by
  obtain ⟨h1, rfl⟩ := encR_may h
  have := enc_len (itemR c)
  rw [encode_rep h1] at this
  dsimp only at this
  omega
theorem decC_in {s : List UInt8} {c : Cmd} (h : decC s = (c, 0)) : inCmd c := by
  have h1 := (decC_item h).1
  have h2 := decode_in s
  rw [h1] at h2
  exact of_dec h2 h1
theorem decR_in {s : List UInt8} {c : Rep} (h : decR s = (c, 0)) : inRep c := by
  have h1 := (decR_item h).1
  have h2 := decode_in s
  rw [h1] at h2
  exact (of_decR h2 h1).1
theorem decC_cases (s : List UInt8) : decC s = (zeroC, 4) ∨ ∃ c, decC s = (c, 0) := by
  rcases decC_or s with h | h
  · exact .inl h
  · exact .inr ⟨_, Prod.ext rfl h⟩
theorem decR_cases (s : List UInt8) : decR s = (zeroR, 4) ∨ ∃ c, decR s = (c, 0) := by
  rcases decR_or s with h | h
  · exact .inl h
  · exact .inr ⟨_, Prod.ext rfl h⟩
theorem encC_cases (c : Cmd) : encC c = ([], 4) ∨ ∃ s, encC c = (s, 0) := by
  unfold encC
  split
  · exact .inr ⟨_, rfl⟩
  · exact .inl rfl
theorem encR_cases (c : Rep) : encR c = ([], 4) ∨ ∃ s, encR c = (s, 0) := by
  unfold encR
  split
  · exact .inr ⟨_, rfl⟩
  · exact .inl rfl
theorem CmdBack_law (c : Cmd) (r : Rep) (s : List UInt8) (hc : inCmd c) (hr : inRep r) (hs : s.length ≤ 140737488351232) : FCv Try.prog 6 [cT c, rT r, ts s] (tb true) := by
  have k1 := cenc_law c hc
  have k2 := pack_law r hr
  have k3 := dec_law s hs
  have k4 := unp_law s hs
  have m1 := may_law c hc
  rcases encC_cases c with h1 | ⟨t1, h1⟩
  · rw [h1] at k1
    clear m1
    rcases encR_cases r with h2 | ⟨t2, h2⟩
    · rw [h2] at k2
      rcases decC_cases s with h3 | ⟨d3, h3⟩
      · rw [h3] at k3
        rcases decR_cases s with h4 | ⟨d4, h4⟩
        · rw [h4] at k4
          unfold cT at *
          unfold rT at *
          refine FCv_of_awp (fn := Try.f6) (c := bodyC Try.f6) Try.func6 rfl (of_decide_eq_true rfl) [] ?_
          conv => whnf
          refine ⟨_, awake_law, ?_⟩
          conv => whnf
          refine ⟨_, k1, ?_⟩
          conv => whnf
          refine ⟨_, k2, ?_⟩
          conv => whnf
          refine ⟨_, k3, ?_⟩
          conv => whnf
          refine ⟨_, k4, ?_⟩
          conv => whnf
          refine ⟨rV zeroR, rV zeroR, rfl, rfl, repEq _ _ zeroR zeroR ?_⟩
          rw [decide_eq_true rfl]
          conv => whnf
          exact .inl rfl
        · rw [h4] at k4
          have j4 := pack_law d4 (decR_in h4)
          rw [decR_enc h4] at j4
          unfold cT at *
          unfold rT at *
          refine FCv_of_awp (fn := Try.f6) (c := bodyC Try.f6) Try.func6 rfl (of_decide_eq_true rfl) [] ?_
          conv => whnf
          refine ⟨_, awake_law, ?_⟩
          conv => whnf
          refine ⟨_, k1, ?_⟩
          conv => whnf
          refine ⟨_, k2, ?_⟩
          conv => whnf
          refine ⟨_, k3, ?_⟩
          conv => whnf
          refine ⟨_, k4, ?_⟩
          conv => whnf
          refine ⟨_, j4, ?_⟩
          conv => whnf
          rw [strD, decide_eq_true rfl]
          conv => whnf
          exact .inl rfl
      · rw [h3] at k3
        have j3 := cenc_law d3 (decC_in h3)
        rw [decC_enc h3] at j3
        rcases decR_cases s with h4 | ⟨d4, h4⟩
        · rw [h4] at k4
          unfold cT at *
          unfold rT at *
          refine FCv_of_awp (fn := Try.f6) (c := bodyC Try.f6) Try.func6 rfl (of_decide_eq_true rfl) [] ?_
          conv => whnf
          refine ⟨_, awake_law, ?_⟩
          conv => whnf
          refine ⟨_, k1, ?_⟩
          conv => whnf
          refine ⟨_, k2, ?_⟩
          conv => whnf
          refine ⟨_, k3, ?_⟩
          conv => whnf
          refine ⟨_, j3, ?_⟩
          conv => whnf
          rw [strD, decide_eq_true rfl]
          conv => whnf
          refine ⟨_, k4, ?_⟩
          conv => whnf
          refine ⟨rV zeroR, rV zeroR, rfl, rfl, repEq _ _ zeroR zeroR ?_⟩
          rw [decide_eq_true rfl]
          conv => whnf
          exact .inl rfl
        · rw [h4] at k4
          have j4 := pack_law d4 (decR_in h4)
          rw [decR_enc h4] at j4
          unfold cT at *
          unfold rT at *
          refine FCv_of_awp (fn := Try.f6) (c := bodyC Try.f6) Try.func6 rfl (of_decide_eq_true rfl) [] ?_
          conv => whnf
          refine ⟨_, awake_law, ?_⟩
          conv => whnf
          refine ⟨_, k1, ?_⟩
          conv => whnf
          refine ⟨_, k2, ?_⟩
          conv => whnf
          refine ⟨_, k3, ?_⟩
          conv => whnf
          refine ⟨_, j3, ?_⟩
          conv => whnf
          rw [strD, decide_eq_true rfl]
          conv => whnf
          refine ⟨_, k4, ?_⟩
          conv => whnf
          refine ⟨_, j4, ?_⟩
          conv => whnf
          rw [strD, decide_eq_true rfl]
          conv => whnf
          exact .inl rfl
    · rw [h2] at k2
      have j2 := unp_law2 (encR_len h2) hr h2
      rcases decC_cases s with h3 | ⟨d3, h3⟩
      · rw [h3] at k3
        rcases decR_cases s with h4 | ⟨d4, h4⟩
        · rw [h4] at k4
          unfold cT at *
          unfold rT at *
          refine FCv_of_awp (fn := Try.f6) (c := bodyC Try.f6) Try.func6 rfl (of_decide_eq_true rfl) [] ?_
          conv => whnf
          refine ⟨_, awake_law, ?_⟩
          conv => whnf
          refine ⟨_, k1, ?_⟩
          conv => whnf
          refine ⟨_, k2, ?_⟩
          conv => whnf
          refine ⟨_, j2, ?_⟩
          conv => whnf
          refine ⟨rV r, rV r, rfl, rfl, repNe _ _ r r ?_⟩
          rw [decide_eq_true rfl]
          conv => whnf
          refine ⟨_, k3, ?_⟩
          conv => whnf
          refine ⟨_, k4, ?_⟩
          conv => whnf
          refine ⟨rV zeroR, rV zeroR, rfl, rfl, repEq _ _ zeroR zeroR ?_⟩
          rw [decide_eq_true rfl]
          conv => whnf
          exact .inl rfl
        · rw [h4] at k4
          have j4 := pack_law d4 (decR_in h4)
          rw [decR_enc h4] at j4
          unfold cT at *
          unfold rT at *
          refine FCv_of_awp (fn := Try.f6) (c := bodyC Try.f6) Try.func6 rfl (of_decide_eq_true rfl) [] ?_
          conv => whnf
          refine ⟨_, awake_law, ?_⟩
          conv => whnf
          refine ⟨_, k1, ?_⟩
          conv => whnf
          refine ⟨_, k2, ?_⟩
          conv => whnf
          refine ⟨_, j2, ?_⟩
          conv => whnf
          refine ⟨rV r, rV r, rfl, rfl, repNe _ _ r r ?_⟩
          rw [decide_eq_true rfl]
          conv => whnf
          refine ⟨_, k3, ?_⟩
          conv => whnf
          refine ⟨_, k4, ?_⟩
          conv => whnf
          refine ⟨_, j4, ?_⟩
          conv => whnf
          rw [strD, decide_eq_true rfl]
          conv => whnf
          exact .inl rfl
      · rw [h3] at k3
        have j3 := cenc_law d3 (decC_in h3)
        rw [decC_enc h3] at j3
        rcases decR_cases s with h4 | ⟨d4, h4⟩
        · rw [h4] at k4
          unfold cT at *
          unfold rT at *
          refine FCv_of_awp (fn := Try.f6) (c := bodyC Try.f6) Try.func6 rfl (of_decide_eq_true rfl) [] ?_
          conv => whnf
          refine ⟨_, awake_law, ?_⟩
          conv => whnf
          refine ⟨_, k1, ?_⟩
          conv => whnf
          refine ⟨_, k2, ?_⟩
          conv => whnf
          refine ⟨_, j2, ?_⟩
          conv => whnf
          refine ⟨rV r, rV r, rfl, rfl, repNe _ _ r r ?_⟩
          rw [decide_eq_true rfl]
          conv => whnf
          refine ⟨_, k3, ?_⟩
          conv => whnf
          refine ⟨_, j3, ?_⟩
          conv => whnf
          rw [strD, decide_eq_true rfl]
          conv => whnf
          refine ⟨_, k4, ?_⟩
          conv => whnf
          refine ⟨rV zeroR, rV zeroR, rfl, rfl, repEq _ _ zeroR zeroR ?_⟩
          rw [decide_eq_true rfl]
          conv => whnf
          exact .inl rfl
        · rw [h4] at k4
          have j4 := pack_law d4 (decR_in h4)
          rw [decR_enc h4] at j4
          unfold cT at *
          unfold rT at *
          refine FCv_of_awp (fn := Try.f6) (c := bodyC Try.f6) Try.func6 rfl (of_decide_eq_true rfl) [] ?_
          conv => whnf
          refine ⟨_, awake_law, ?_⟩
          conv => whnf
          refine ⟨_, k1, ?_⟩
          conv => whnf
          refine ⟨_, k2, ?_⟩
          conv => whnf
          refine ⟨_, j2, ?_⟩
          conv => whnf
          refine ⟨rV r, rV r, rfl, rfl, repNe _ _ r r ?_⟩
          rw [decide_eq_true rfl]
          conv => whnf
          refine ⟨_, k3, ?_⟩
          conv => whnf
          refine ⟨_, j3, ?_⟩
          conv => whnf
          rw [strD, decide_eq_true rfl]
          conv => whnf
          refine ⟨_, k4, ?_⟩
          conv => whnf
          refine ⟨_, j4, ?_⟩
          conv => whnf
          rw [strD, decide_eq_true rfl]
          conv => whnf
          exact .inl rfl
  · rw [h1] at k1
    rw [(encC_may h1).1] at m1
    have j1 := dec_law2 (encC_len h1) hc h1
    rcases encR_cases r with h2 | ⟨t2, h2⟩
    · rw [h2] at k2
      rcases decC_cases s with h3 | ⟨d3, h3⟩
      · rw [h3] at k3
        rcases decR_cases s with h4 | ⟨d4, h4⟩
        · rw [h4] at k4
          unfold cT at *
          unfold rT at *
          refine FCv_of_awp (fn := Try.f6) (c := bodyC Try.f6) Try.func6 rfl (of_decide_eq_true rfl) [] ?_
          conv => whnf
          refine ⟨_, awake_law, ?_⟩
          conv => whnf
          refine ⟨_, k1, ?_⟩
          conv => whnf
          refine ⟨_, j1, ?_⟩
          conv => whnf
          refine ⟨cV c, cV c, rfl, rfl, cmdNe _ _ c c ?_⟩
          rw [decide_eq_true rfl]
          conv => whnf
          refine ⟨_, m1, ?_⟩
          conv => whnf
          refine ⟨_, k2, ?_⟩
          conv => whnf
          refine ⟨_, k3, ?_⟩
          conv => whnf
          refine ⟨_, k4, ?_⟩
          conv => whnf
          refine ⟨rV zeroR, rV zeroR, rfl, rfl, repEq _ _ zeroR zeroR ?_⟩
          rw [decide_eq_true rfl]
          conv => whnf
          exact .inl rfl
        · rw [h4] at k4
          have j4 := pack_law d4 (decR_in h4)
          rw [decR_enc h4] at j4
          unfold cT at *
          unfold rT at *
          refine FCv_of_awp (fn := Try.f6) (c := bodyC Try.f6) Try.func6 rfl (of_decide_eq_true rfl) [] ?_
          conv => whnf
          refine ⟨_, awake_law, ?_⟩
          conv => whnf
          refine ⟨_, k1, ?_⟩
          conv => whnf
          refine ⟨_, j1, ?_⟩
          conv => whnf
          refine ⟨cV c, cV c, rfl, rfl, cmdNe _ _ c c ?_⟩
          rw [decide_eq_true rfl]
          conv => whnf
          refine ⟨_, m1, ?_⟩
          conv => whnf
          refine ⟨_, k2, ?_⟩
          conv => whnf
          refine ⟨_, k3, ?_⟩
          conv => whnf
          refine ⟨_, k4, ?_⟩
          conv => whnf
          refine ⟨_, j4, ?_⟩
          conv => whnf
          rw [strD, decide_eq_true rfl]
          conv => whnf
          exact .inl rfl
      · rw [h3] at k3
        have j3 := cenc_law d3 (decC_in h3)
        rw [decC_enc h3] at j3
        rcases decR_cases s with h4 | ⟨d4, h4⟩
        · rw [h4] at k4
          unfold cT at *
          unfold rT at *
          refine FCv_of_awp (fn := Try.f6) (c := bodyC Try.f6) Try.func6 rfl (of_decide_eq_true rfl) [] ?_
          conv => whnf
          refine ⟨_, awake_law, ?_⟩
          conv => whnf
          refine ⟨_, k1, ?_⟩
          conv => whnf
          refine ⟨_, j1, ?_⟩
          conv => whnf
          refine ⟨cV c, cV c, rfl, rfl, cmdNe _ _ c c ?_⟩
          rw [decide_eq_true rfl]
          conv => whnf
          refine ⟨_, m1, ?_⟩
          conv => whnf
          refine ⟨_, k2, ?_⟩
          conv => whnf
          refine ⟨_, k3, ?_⟩
          conv => whnf
          refine ⟨_, j3, ?_⟩
          conv => whnf
          rw [strD, decide_eq_true rfl]
          conv => whnf
          refine ⟨_, k4, ?_⟩
          conv => whnf
          refine ⟨rV zeroR, rV zeroR, rfl, rfl, repEq _ _ zeroR zeroR ?_⟩
          rw [decide_eq_true rfl]
          conv => whnf
          exact .inl rfl
        · rw [h4] at k4
          have j4 := pack_law d4 (decR_in h4)
          rw [decR_enc h4] at j4
          unfold cT at *
          unfold rT at *
          refine FCv_of_awp (fn := Try.f6) (c := bodyC Try.f6) Try.func6 rfl (of_decide_eq_true rfl) [] ?_
          conv => whnf
          refine ⟨_, awake_law, ?_⟩
          conv => whnf
          refine ⟨_, k1, ?_⟩
          conv => whnf
          refine ⟨_, j1, ?_⟩
          conv => whnf
          refine ⟨cV c, cV c, rfl, rfl, cmdNe _ _ c c ?_⟩
          rw [decide_eq_true rfl]
          conv => whnf
          refine ⟨_, m1, ?_⟩
          conv => whnf
          refine ⟨_, k2, ?_⟩
          conv => whnf
          refine ⟨_, k3, ?_⟩
          conv => whnf
          refine ⟨_, j3, ?_⟩
          conv => whnf
          rw [strD, decide_eq_true rfl]
          conv => whnf
          refine ⟨_, k4, ?_⟩
          conv => whnf
          refine ⟨_, j4, ?_⟩
          conv => whnf
          rw [strD, decide_eq_true rfl]
          conv => whnf
          exact .inl rfl
    · rw [h2] at k2
      have j2 := unp_law2 (encR_len h2) hr h2
      rcases decC_cases s with h3 | ⟨d3, h3⟩
      · rw [h3] at k3
        rcases decR_cases s with h4 | ⟨d4, h4⟩
        · rw [h4] at k4
          unfold cT at *
          unfold rT at *
          refine FCv_of_awp (fn := Try.f6) (c := bodyC Try.f6) Try.func6 rfl (of_decide_eq_true rfl) [] ?_
          conv => whnf
          refine ⟨_, awake_law, ?_⟩
          conv => whnf
          refine ⟨_, k1, ?_⟩
          conv => whnf
          refine ⟨_, j1, ?_⟩
          conv => whnf
          refine ⟨cV c, cV c, rfl, rfl, cmdNe _ _ c c ?_⟩
          rw [decide_eq_true rfl]
          conv => whnf
          refine ⟨_, m1, ?_⟩
          conv => whnf
          refine ⟨_, k2, ?_⟩
          conv => whnf
          refine ⟨_, j2, ?_⟩
          conv => whnf
          refine ⟨rV r, rV r, rfl, rfl, repNe _ _ r r ?_⟩
          rw [decide_eq_true rfl]
          conv => whnf
          refine ⟨_, k3, ?_⟩
          conv => whnf
          refine ⟨_, k4, ?_⟩
          conv => whnf
          refine ⟨rV zeroR, rV zeroR, rfl, rfl, repEq _ _ zeroR zeroR ?_⟩
          rw [decide_eq_true rfl]
          conv => whnf
          exact .inl rfl
        · rw [h4] at k4
          have j4 := pack_law d4 (decR_in h4)
          rw [decR_enc h4] at j4
          unfold cT at *
          unfold rT at *
          refine FCv_of_awp (fn := Try.f6) (c := bodyC Try.f6) Try.func6 rfl (of_decide_eq_true rfl) [] ?_
          conv => whnf
          refine ⟨_, awake_law, ?_⟩
          conv => whnf
          refine ⟨_, k1, ?_⟩
          conv => whnf
          refine ⟨_, j1, ?_⟩
          conv => whnf
          refine ⟨cV c, cV c, rfl, rfl, cmdNe _ _ c c ?_⟩
          rw [decide_eq_true rfl]
          conv => whnf
          refine ⟨_, m1, ?_⟩
          conv => whnf
          refine ⟨_, k2, ?_⟩
          conv => whnf
          refine ⟨_, j2, ?_⟩
          conv => whnf
          refine ⟨rV r, rV r, rfl, rfl, repNe _ _ r r ?_⟩
          rw [decide_eq_true rfl]
          conv => whnf
          refine ⟨_, k3, ?_⟩
          conv => whnf
          refine ⟨_, k4, ?_⟩
          conv => whnf
          refine ⟨_, j4, ?_⟩
          conv => whnf
          rw [strD, decide_eq_true rfl]
          conv => whnf
          exact .inl rfl
      · rw [h3] at k3
        have j3 := cenc_law d3 (decC_in h3)
        rw [decC_enc h3] at j3
        rcases decR_cases s with h4 | ⟨d4, h4⟩
        · rw [h4] at k4
          unfold cT at *
          unfold rT at *
          refine FCv_of_awp (fn := Try.f6) (c := bodyC Try.f6) Try.func6 rfl (of_decide_eq_true rfl) [] ?_
          conv => whnf
          refine ⟨_, awake_law, ?_⟩
          conv => whnf
          refine ⟨_, k1, ?_⟩
          conv => whnf
          refine ⟨_, j1, ?_⟩
          conv => whnf
          refine ⟨cV c, cV c, rfl, rfl, cmdNe _ _ c c ?_⟩
          rw [decide_eq_true rfl]
          conv => whnf
          refine ⟨_, m1, ?_⟩
          conv => whnf
          refine ⟨_, k2, ?_⟩
          conv => whnf
          refine ⟨_, j2, ?_⟩
          conv => whnf
          refine ⟨rV r, rV r, rfl, rfl, repNe _ _ r r ?_⟩
          rw [decide_eq_true rfl]
          conv => whnf
          refine ⟨_, k3, ?_⟩
          conv => whnf
          refine ⟨_, j3, ?_⟩
          conv => whnf
          rw [strD, decide_eq_true rfl]
          conv => whnf
          refine ⟨_, k4, ?_⟩
          conv => whnf
          refine ⟨rV zeroR, rV zeroR, rfl, rfl, repEq _ _ zeroR zeroR ?_⟩
          rw [decide_eq_true rfl]
          conv => whnf
          exact .inl rfl
        · rw [h4] at k4
          have j4 := pack_law d4 (decR_in h4)
          rw [decR_enc h4] at j4
          unfold cT at *
          unfold rT at *
          refine FCv_of_awp (fn := Try.f6) (c := bodyC Try.f6) Try.func6 rfl (of_decide_eq_true rfl) [] ?_
          conv => whnf
          refine ⟨_, awake_law, ?_⟩
          conv => whnf
          refine ⟨_, k1, ?_⟩
          conv => whnf
          refine ⟨_, j1, ?_⟩
          conv => whnf
          refine ⟨cV c, cV c, rfl, rfl, cmdNe _ _ c c ?_⟩
          rw [decide_eq_true rfl]
          conv => whnf
          refine ⟨_, m1, ?_⟩
          conv => whnf
          refine ⟨_, k2, ?_⟩
          conv => whnf
          refine ⟨_, j2, ?_⟩
          conv => whnf
          refine ⟨rV r, rV r, rfl, rfl, repNe _ _ r r ?_⟩
          rw [decide_eq_true rfl]
          conv => whnf
          refine ⟨_, k3, ?_⟩
          conv => whnf
          refine ⟨_, j3, ?_⟩
          conv => whnf
          rw [strD, decide_eq_true rfl]
          conv => whnf
          refine ⟨_, k4, ?_⟩
          conv => whnf
          refine ⟨_, j4, ?_⟩
          conv => whnf
          rw [strD, decide_eq_true rfl]
          conv => whnf
          exact .inl rfl
end Go.AW.Cm

/- Commands: a byte that is turned. -/
set_option linter.unusedVariables false
set_option linter.unusedSimpArgs false
namespace Go.AW.Cm
open Go Go.AW Go.AW.Wir Go.Proofs
set_option maxRecDepth 10000
set_option pp.maxSteps 60

theorem xor_u8 (c v : UInt8) : bitsI .xor .u8 (c.toNat : Int) (v.toNat : Int) = ((c ^^^ v).toNat : Int) := xor8 c.toBitVec v.toBitVec
theorem turned_law (c : Cmd) (hc : inCmd c) (at' : Int) (ha0 : 0 ≤ at') (ha1 : at' ≤ 65535) (v : UInt8) : FCv Try.prog 8 [cT c, .lit (.int .u16 at'), .lit (.int .u8 v.toNat)] (tb true) := by
  have k1 := cenc_law c hc
  have m1 := may_law c hc
  rcases encC_cases c with h1 | ⟨b, h1⟩
  · rw [h1] at k1
    have hm : mayC c = false := by
      unfold encC at h1
      split at h1
      · cases h1
      · rename_i h; exact Bool.not_eq_true _ ▸ h
    rw [hm] at m1
    obtain ⟨Z, hZ⟩ : ∃ Z : List UInt8, [] = Z := ⟨_, rfl⟩
    rw [hZ] at k1
    unfold cT at *
    dsimp only at k1
    refine FCv_of_awp (fn := Try.f8) (c := bodyC Try.f8) Try.func8 rfl (of_decide_eq_true rfl) [37] ?_
    conv => whnf
    refine ⟨_, awake_law, ?_⟩
    conv => whnf
    refine ⟨_, k1, ?_⟩
    conv => whnf
    rw [emptyD, decide_eq_true hZ.symm]
    conv => whnf
    refine ⟨_, m1, ?_⟩
    conv => whnf
    exact .inl rfl
  rw [h1] at k1
  have hlen := encC_len h1
  have hb0 : 0 < b.length := by
    obtain ⟨_, rfl⟩ := encC_may h1
    unfold bytesC
    simp
  have k1' : FCv Try.prog 11 [.agg [i64 c.op, ts c.name, ts c.of, i64 c.v.1, i64 c.v.2.1, i64 c.v.2.2, i64 c.n]] (.tup [ts b, i64 0]) := k1
  unfold cT
  by_cases z2 : (v.toNat : Int) = 0
  · refine FCv_of_awp (fn := Try.f8) (c := bodyC Try.f8) Try.func8 rfl (of_decide_eq_true rfl) [37] ?_
    conv => whnf
    refine ⟨_, awake_law, ?_⟩
    conv => whnf
    refine ⟨_, k1', ?_⟩
    conv => whnf
    rw [bq z2]
    conv => whnf
    exact .inl rfl
  obtain ⟨k, hk⟩ : ∃ k : Nat, (IntKind.i64.wrap at').tmod (b.length : Int) = (k : Int) := by
    rw [wrap_i64 at' (by omega) (by omega), Int.tmod_eq_emod_of_nonneg ha0]
    exact ⟨(at' % (b.length : Int)).toNat, (Int.toNat_of_nonneg (Int.emod_nonneg _ (by omega))).symm⟩
  have hkl : k < b.length := by
    have := Int.tmod_lt_of_pos (IntKind.i64.wrap at') (show (0 : Int) < b.length by omega)
    omega
  refine FCv_of_awp (fn := Try.f8) (c := bodyC Try.f8) Try.func8 rfl (of_decide_eq_true rfl) [37] ?_
  conv => whnf
  refine ⟨_, awake_law, ?_⟩
  conv => whnf
  refine ⟨_, k1', ?_⟩
  conv => whnf
  rw [bn z2]
  conv => whnf
  have hd : ({ data := b.toArray } : ByteArray).data.toList = b := rfl
  rw [sizeD]
  refine ⟨by omega, ?_⟩
  conv => whnf
  rw [hk]
  try rw [hd]
  refine ⟨⟨by omega, by omega⟩, ?_⟩
  conv => whnf
  rw [Int.toNat_natCast, show nth (bytesR b) (0 + k) = some [.lit (.int .u8 (b[k]).toNat)] from by rw [nth_eq, Nat.zero_add]; exact bytes_get (List.getElem?_eq_getElem hkl)]
  conv => whnf
  refine ⟨⟨by omega, by omega⟩, ?_⟩
  conv => whnf
  rw [Int.toNat_natCast, show nth (bytesR b) (0 + k) = some [.lit (.int .u8 (b[k]).toNat)] from by rw [nth_eq, Nat.zero_add]; exact bytes_get (List.getElem?_eq_getElem hkl)]
  conv => whnf
  rw [xor_u8]
  have hset : (bytesR b).set (0 + k) (spl [T.lit (Value.int IntKind.u8 ((b[k]).toNat : Int))] 0 (cellsT (T.lit (Value.int IntKind.u8 ((b[k] ^^^ v).toNat : Int))))) = bytesR (b.set k (b[k] ^^^ v)) := by
    rw [Nat.zero_add]
    exact bytesR_setB b k (b[k] ^^^ v)
  rw [hset]
  have hne : b.set k (b[k] ^^^ v) ≠ b := by
    intro e
    have h1 : (b.set k (b[k] ^^^ v))[k]? = b[k]? := by rw [e]
    rw [List.getElem?_set_self hkl, List.getElem?_eq_getElem hkl, Option.some.injEq] at h1
    have h2 : v = 0 := by
      have h3 := congrArg (fun z => b[k] ^^^ z) h1
      simpa [← UInt8.xor_assoc] using h3
    exact z2 (by rw [h2]; rfl)
  have hls : (b.set k (b[k] ^^^ v)).length = b.length := List.length_set
  obtain ⟨B, hB⟩ : ∃ B, b.set k (b[k] ^^^ v) = B := ⟨_, rfl⟩
  rw [hB] at hne hls ⊢
  have kd := dec_law B (by omega)
  refine ⟨by rw [bytesR_len, hls]; omega, ?_⟩
  conv => whnf
  refine ⟨B, ⟨rfl, by rw [List.drop_zero, List.take_of_length_le (by rw [bytesR_len, hls]; omega)]⟩, ?_⟩
  conv => whnf
  rcases decC_cases B with hd | ⟨d, hd⟩
  · rw [hd] at kd
    have kd' : FCv Try.prog 17 [ts B] (.tup [.agg [i64 0, ts [], ts [], i64 0, i64 0, i64 0, i64 0], i64 4]) := kd
    refine ⟨_, kd', ?_⟩
    conv => whnf
    refine ⟨cV zeroC, cV zeroC, rfl, rfl, cmdEq _ _ zeroC zeroC ?_⟩
    rw [decide_eq_true rfl]
    conv => whnf
    exact .inl rfl
  · have hdm := (decC_item hd).2
    have hm := may_law d (decC_in hd)
    rw [hdm] at hm
    rw [hd] at kd
    have hdc : ¬ d = c := by
      rintro rfl
      have := decC_enc hd
      rw [h1] at this
      exact hne (congrArg Prod.fst this).symm
    have kd' : FCv Try.prog 17 [ts B] (.tup [.agg [i64 d.op, ts d.name, ts d.of, i64 d.v.1, i64 d.v.2.1, i64 d.v.2.2, i64 d.n], i64 0]) := kd
    refine ⟨_, kd', ?_⟩
    conv => whnf
    refine ⟨cV d, cV c, rfl, rfl, cmdNe _ _ d c ?_⟩
    rw [decide_eq_false hdc]
    conv => whnf
    refine ⟨_, hm, ?_⟩
    conv => whnf
    exact .inl rfl
theorem CmdTurned_law (c : Cmd) (at' turn : Int) (hc : inCmd c) (ha0 : IntKind.u16.min ≤ at') (ha1 : at' ≤ IntKind.u16.max) (ht0 : IntKind.u8.min ≤ turn) (ht1 : turn ≤ IntKind.u8.max) :
    FCv Try.prog 8 [cT c, .lit (.int .u16 at'), .lit (.int .u8 turn)] (tb true) := by
  have a0 : (0 : Int) ≤ at' := ha0
  have a1 : at' ≤ 65535 := ha1
  have b0 : (0 : Int) ≤ turn := ht0
  have b1 : turn ≤ 255 := ht1
  have e : turn = ((UInt8.ofNat turn.toNat).toNat : Int) := by rw [UInt8.toNat_ofNat']; omega
  rw [e]
  exact turned_law c hc at' a0 a1 _
theorem strLen (b : ByteArray) (h : b.size ≤ reachBytes) : b.data.toList.length ≤ 140737488351232 := by
  have : reachBytes = 140737488351232 := rfl
  rw [Array.length_toList]
  have : b.data.size = b.size := rfl
  omega
theorem CmdDecodes_row (b : ByteArray) (h : b.size ≤ reachBytes) : FCv Try.prog 4 [.lit (.string b)] (tb true) := CmdDecodes_law b.data.toList (strLen b h)
theorem CmdBack_row (c : Cmd) (r : Rep) (b : ByteArray) (hc : inCmd c) (hr : inRep r) (h : b.size ≤ reachBytes) : FCv Try.prog 6 [cT c, rT r, .lit (.string b)] (tb true) := CmdBack_law c r b.data.toList hc hr (strLen b h)
end Go.AW.Cm
