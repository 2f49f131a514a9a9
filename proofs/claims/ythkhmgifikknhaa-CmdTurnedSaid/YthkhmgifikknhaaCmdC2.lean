import Derived.Test.YthkhmgifikknhaaCmdC1
/- Commands: their bytes, walked. -/
set_option linter.unusedVariables false
set_option linter.unusedSimpArgs false
namespace Go.AW.Cm
open Go Go.AW Go.AW.Wir Go.Proofs
set_option maxRecDepth 10000
set_option pp.maxSteps 60

theorem asksD (c : Cmd) : asksC c = (mayC c && decide (8 ≤ c.op)) := rfl
theorem asks_law (c : Cmd) (h : inCmd c) : FCv Try.prog 15 [cT c] (tb (asksC c)) := by
  have m := may_law c h
  have hm : mayC c = true → c.op ≤ 10 := fun h => (mayC_iff.1 h).1.2
  rw [asksD]
  obtain ⟨M, hM⟩ : ∃ M, mayC c = M := ⟨_, rfl⟩
  rw [hM] at m hm ⊢
  unfold cT at m ⊢
  refine FCv_of_awp (fn := Try.f15) (c := bodyC Try.f15) Try.func15 rfl (of_decide_eq_true rfl) [] ?_
  conv => whnf
  refine ⟨_, m, ?_⟩
  conv => whnf
  cases M with
  | false =>
    conv => whnf
    exact .inl rfl
  | true =>
    have hm := hm rfl
    conv => whnf
    refine br_intro (fun h1 => ?_) (fun h1 => ?_) <;> (rw [h1]; conv => whnf)
    · exact .inl (congrArg tb (by rw [decide_eq_true (by have := eq_of_beq h1; omega)]; rfl))
    refine br_intro (fun h2 => ?_) (fun h2 => ?_) <;> (rw [h2]; conv => whnf)
    · exact .inl (congrArg tb (by rw [decide_eq_true (by have := eq_of_beq h2; omega)]; rfl))
    have g1 := ne_of_beq_false h1
    have g2 := ne_of_beq_false h2
    by_cases h3 : c.op = 10
    · rw [bq h3]
      exact .inl (congrArg tb (by rw [decide_eq_true (by omega)]; rfl))
    · rw [bn h3]
      exact .inl (congrArg tb (by rw [decide_eq_false (by omega)]; rfl))
theorem rasks_law (c : Cmd) (h : inCmd c) : FCv Try.prog 16 [cT c] (tb (asksC c)) := by
  have m := rmay_law c h
  rw [asksD]
  obtain ⟨M, hM⟩ : ∃ M, mayC c = M := ⟨_, rfl⟩
  rw [hM] at m ⊢
  unfold cT at m ⊢
  refine FCv_of_awp (fn := Try.f16) (c := bodyC Try.f16) Try.func16 rfl (of_decide_eq_true rfl) [] ?_
  conv => whnf
  refine ⟨_, m, ?_⟩
  conv => whnf
  cases M with
  | false =>
    conv => whnf
    exact .inl rfl
  | true =>
    conv => whnf
    exact .inl rfl

abbrev eN (n : Int) : List T := [i64 1, i64 n, ts [], .sl none 4 []]
abbrev eS (s : List UInt8) : List T := [i64 2, i64 0, ts s, .sl none 4 []]
abbrev eL (l : List (List T)) : List T := [i64 3, i64 0, ts [], .sl none 4 l]
abbrev eV (v : V) : List T := eL [eN v.1, eN v.2.1, eN v.2.2]
theorem num1 (n : Int) : FCv Try.prog 25 [i64 n] (.agg (eN n)) := by
  refine FCv_of_awp (fn := Try.f25) (c := bodyC Try.f25) Try.func25 rfl (of_decide_eq_true rfl) [] ?_
  conv => whnf
  exact .inr (.inr (.inr ⟨.inl rfl, .inl rfl, .inl rfl, .inr (.inl ⟨rfl, 4, rfl⟩), trivial⟩))
theorem str1 (s : List UInt8) : FCv Try.prog 26 [ts s] (.agg (eS s)) := by
  refine FCv_of_awp (fn := Try.f26) (c := bodyC Try.f26) Try.func26 rfl (of_decide_eq_true rfl) [] ?_
  conv => whnf
  exact .inr (.inr (.inr ⟨.inl rfl, .inl rfl, .inl rfl, .inr (.inl ⟨rfl, 4, rfl⟩), trivial⟩))
theorem row1 (l : List (List T)) : FCv Try.prog 24 [.sl none 4 l] (.agg (eL l)) := by
  refine FCv_of_awp (fn := Try.f24) (c := bodyC Try.f24) Try.func24 rfl (of_decide_eq_true rfl) [] ?_
  conv => whnf
  exact .inl rfl
theorem num2 (n : Int) : FCv Try.prog 45 [i64 n] (.agg (eN n)) := num_law n
theorem str2 (s : List UInt8) : FCv Try.prog 46 [ts s] (.agg (eS s)) := str_law s
theorem row2 (l : List (List T)) : FCv Try.prog 44 [.sl none 4 l] (.agg (eL l)) := by
  refine FCv_of_awp (fn := Try.f44) (c := bodyC Try.f44) Try.func44 rfl (of_decide_eq_true rfl) [] ?_
  conv => whnf
  exact .inl rfl
theorem vec1 (v : V) : FCv Try.prog 27 [.agg [i64 v.1, i64 v.2.1, i64 v.2.2]] (.agg (eV v)) := by
  refine FCv_of_awp (fn := Try.f27) (c := bodyC Try.f27) Try.func27 rfl (of_decide_eq_true rfl) [] ?_
  conv => whnf
  refine ⟨by decide, ?_⟩
  conv => whnf
  refine ⟨_, num1 v.1, ?_⟩
  conv => whnf
  refine ⟨by decide, ?_⟩
  conv => whnf
  refine ⟨_, num1 v.2.1, ?_⟩
  conv => whnf
  refine ⟨by decide, ?_⟩
  conv => whnf
  refine ⟨_, num1 v.2.2, ?_⟩
  conv => whnf
  refine ⟨_, row1 _, ?_⟩
  conv => whnf
  exact .inl rfl
theorem vec2 (v : V) : FCv Try.prog 47 [.agg [i64 v.1, i64 v.2.1, i64 v.2.2]] (.agg (eV v)) := by
  refine FCv_of_awp (fn := Try.f47) (c := bodyC Try.f47) Try.func47 rfl (of_decide_eq_true rfl) [] ?_
  conv => whnf
  refine ⟨by decide, ?_⟩
  conv => whnf
  refine ⟨_, num2 v.1, ?_⟩
  conv => whnf
  refine ⟨by decide, ?_⟩
  conv => whnf
  refine ⟨_, num2 v.2.1, ?_⟩
  conv => whnf
  refine ⟨by decide, ?_⟩
  conv => whnf
  refine ⟨_, num2 v.2.2, ?_⟩
  conv => whnf
  refine ⟨_, row2 _, ?_⟩
  conv => whnf
  exact .inl rfl
theorem item2 (c : Cmd) : FCv Try.prog 29 [i64 c.op, ts c.name, ts c.of, .agg [i64 c.v.1, i64 c.v.2.1, i64 c.v.2.2], i64 c.n] (.agg (eL [eN c.op, eS c.name, eS c.of, eV c.v, eN c.n])) := by
  refine FCv_of_awp (fn := Try.f29) (c := bodyC Try.f29) Try.func29 rfl (of_decide_eq_true rfl) [] ?_
  conv => whnf
  refine ⟨_, num2 c.op, ?_⟩
  conv => whnf
  refine ⟨_, str2 c.name, ?_⟩
  conv => whnf
  refine ⟨_, str2 c.of, ?_⟩
  conv => whnf
  refine ⟨_, vec2 c.v, ?_⟩
  conv => whnf
  refine ⟨_, num2 c.n, ?_⟩
  conv => whnf
  refine ⟨_, row2 _, ?_⟩
  conv => whnf
  exact .inl rfl
theorem encodeC (c : Cmd) (h : inCmd c) : FCv Try.prog 23 [.agg (eL [eN c.op, eS c.name, eS c.of, eV c.v, eN c.n])] (.tup [.sl none 1 (bytesR (encode (itemC c)).1), i64 (encode (itemC c)).2]) := encode_law (itemC c) (in_cmd h)
theorem rencodeC (c : Cmd) (h : inCmd c) : FCv Try.prog 28 [.agg (eL [eN c.op, eS c.name, eS c.of, eV c.v, eN c.n])] (.tup [.sl none 1 (bytesR (encode (itemC c)).1), i64 (encode (itemC c)).2]) := rencode_law (itemC c) (in_cmd h)
theorem encodeR (c : Rep) (h : inRep c) : FCv Try.prog 23 [.agg (eL [eN c.e, eS c.s, eV c.v, eN c.n])] (.tup [.sl none 1 (bytesR (encode (itemR c)).1), i64 (encode (itemR c)).2]) := encode_law (itemR c) (in_rep h)
theorem rencodeR (c : Rep) (h : inRep c) : FCv Try.prog 28 [.agg (eL [eN c.e, eS c.s, eV c.v, eN c.n])] (.tup [.sl none 1 (bytesR (encode (itemR c)).1), i64 (encode (itemR c)).2]) := rencode_law (itemR c) (in_rep h)

theorem cenc_law (c : Cmd) (h : inCmd c) : FCv Try.prog 11 [cT c] (.tup [ts (encC c).1, i64 (encC c).2]) := by
  have m := may_law c h
  have e := encodeC c h
  have hy : mayC c = true → encode (itemC c) = (bytesC c, 0) := encode_cmd
  unfold encC
  obtain ⟨M, hM⟩ : ∃ M, mayC c = M := ⟨_, rfl⟩
  rw [hM] at m hy ⊢
  unfold cT at m ⊢
  refine FCv_of_awp (fn := Try.f11) (c := bodyC Try.f11) Try.func11 rfl (of_decide_eq_true rfl) [] ?_
  conv => whnf
  refine ⟨_, m, ?_⟩
  conv => whnf
  cases M with
  | false =>
    conv => whnf
    exact ⟨.inl rfl, .inl rfl, trivial⟩
  | true =>
    rw [hy rfl] at e
    conv => whnf
    refine ⟨_, num1 c.op, ?_⟩
    conv => whnf
    refine ⟨_, str1 c.name, ?_⟩
    conv => whnf
    refine ⟨_, str1 c.of, ?_⟩
    conv => whnf
    refine ⟨_, vec1 c.v, ?_⟩
    conv => whnf
    refine ⟨_, num1 c.n, ?_⟩
    conv => whnf
    refine ⟨_, row1 _, ?_⟩
    conv => whnf
    refine ⟨_, e, ?_⟩
    conv => whnf
    refine ⟨_, ⟨rfl, rfl⟩, ?_⟩
    conv => whnf
    exact ⟨.inl rfl, .inl rfl, trivial⟩
theorem renc_law (c : Cmd) (h : inCmd c) : FCv Try.prog 12 [cT c] (.tup [ts (encC c).1, i64 (encC c).2]) := by
  have m := rmay_law c h
  have e := rencodeC c h
  have hy : mayC c = true → encode (itemC c) = (bytesC c, 0) := encode_cmd
  unfold encC
  obtain ⟨M, hM⟩ : ∃ M, mayC c = M := ⟨_, rfl⟩
  rw [hM] at m hy ⊢
  unfold cT at m ⊢
  refine FCv_of_awp (fn := Try.f12) (c := bodyC Try.f12) Try.func12 rfl (of_decide_eq_true rfl) [] ?_
  conv => whnf
  refine ⟨_, m, ?_⟩
  conv => whnf
  cases M with
  | false =>
    conv => whnf
    exact ⟨.inl rfl, .inl rfl, trivial⟩
  | true =>
    rw [hy rfl] at e
    conv => whnf
    refine ⟨_, item2 c, ?_⟩
    conv => whnf
    refine ⟨_, e, ?_⟩
    conv => whnf
    refine ⟨_, ⟨rfl, rfl⟩, ?_⟩
    conv => whnf
    exact ⟨.inl rfl, .inl rfl, trivial⟩
end Go.AW.Cm
