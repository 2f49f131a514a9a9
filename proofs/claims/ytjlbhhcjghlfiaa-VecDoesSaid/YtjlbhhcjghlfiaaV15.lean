/- Numbers of many digits: of 64 bits, added with signs. -/
import Derived.Test.YtjlbhhcjghlfiaaV14
set_option linter.unusedVariables false
set_option linter.unusedSimpArgs false
namespace Go.AW.Vec
open Go Go.AW Go.Proofs
set_option maxRecDepth 10000
set_option pp.maxSteps 600
/-- A number of many digits: its sign, and its digits. -/
def bigT (s : Bool) (n : Nat) : T := .agg [tb s, digT (digs n)]
theorem wrap_u64 (n : Int) : IntKind.u64.wrap n = n % 18446744073709551616 := by
  have e1 : (2 : Int) ^ IntKind.u64.bits = 18446744073709551616 := by decide
  simp only [IntKind.wrap, e1, show IntKind.u64.signed = false from rfl, Bool.false_and, Bool.false_eq_true, if_false]

theorem zero2_lt (x : Nat) : blkLt x (.own 2 [[tb false, .lit (.slice none 0 0)]]) := by
  intro row hr c hc
  obtain rfl := List.mem_singleton.1 hr
  simp only [List.mem_cons, List.not_mem_nil, or_false] at hc
  rcases hc with rfl | rfl <;> trivial
theorem big_lt (s : Bool) (rows : List (List T)) : blkLt 4 (.own 2 [[tb s, .sl (some 3) 1 rows]]) := by
  intro row hr c hc
  obtain rfl := List.mem_singleton.1 hr
  simp only [List.mem_cons, List.not_mem_nil, or_false] at hc
  rcases hc with rfl | rfl
  · trivial
  · exact rfl

theorem of_law (n : Int) (hn : okI n) : FCv Try.prog 26 [i64 n] (bigT (decide (n < 0)) n.natAbs) := by
  obtain ⟨hn1, hn2⟩ := hn
  refine FCv_of_awp (fn := Try.f26) (c := bodyC Try.f26) Try.func26 rfl (of_decide_eq_true rfl) [] ?_
  conv => whnf
  refine br_intro (fun h => ?_) (fun h => ?_)
  · rw [h]
    have h0 := of_decide_eq_true h
    have hb0 := h
    conv => whnf
    refine loop_intro (fun q : {q : Nat × List Nat // q.2 ++ digs q.1 = digs n.natAbs ∧ q.1 < 18446744073709551616 ∧ q.2.length ≤ 1000} => ⟨[(2, .ptr 0 0 0), (3, .ptr 1 0 0), (4, .lit (.int .u64 (q.1.1 : Int)))],
      [(0, .own 2 [[tb false, .lit (.slice none 0 0)]]), (1, .own 2 [[tb (decide (n < 0)), .sl (some 3) 1 (digR q.1.2)]]), (3, .tok 1 (digR q.1.2).length)], 27, 4, []⟩) (fun q => q.1.1) ⟨(n.natAbs, []), rfl, by show n.natAbs < _; omega, by simp⟩ ?_ ?_
    · refine Wk.intro [(3, 1)] rfl (fun p hp => by obtain rfl := List.mem_singleton.1 hp; exact ⟨Nat.le_refl 3, Nat.lt_succ_self 3, fun q hq => by obtain rfl := List.mem_singleton.1 hq; intro _; rfl⟩) ⟨.same rfl (by exact rfl), .same rfl (by exact rfl), .same ?_ trivial, trivial⟩
        ⟨⟨rfl, .inl ⟨rfl, zero2_lt _⟩⟩, ⟨rfl, .inr (.inr ⟨2, _, _, rfl, rfl, ⟨⟨.same ?_ trivial, .inr (.inr (.inr (.inl ⟨rfl, 3, 1, rfl, by simp⟩))), trivial⟩, trivial⟩⟩)⟩, ⟨rfl, .inr (.inl ⟨1, by simp, rfl⟩)⟩, trivial⟩
      · refine congrArg (fun z => T.lit (.int .u64 z)) ?_
        show _ = ((n.natAbs : Nat) : Int)
        simp only [wrap_u64]
        omega
      · exact congrArg tb h.symm
    rintro ⟨⟨m, l⟩, hq1, hq2, hq3⟩
    dsimp only
    dsimp only at hq1 hq2 hq3
    conv => whnf
    refine br_intro (fun h => ?_) (fun h => ?_)
    · rw [h]
      have hm : m ≠ 0 := by have := of_decide_eq_true h; omega
      have hlen : (l ++ digs m).length = (digs n.natAbs).length := by rw [hq1]
      have hl20 : (digs n.natAbs).length ≤ 20 := digs_len 20 _ (Nat.lt_of_le_of_lt (show n.natAbs ≤ 9223372036854775808 by omega) (by decide))
      rw [List.length_append] at hlen
      conv => whnf
      refine ⟨by decide, ?_⟩
      conv => whnf
      refine ⟨rfl, ?_, ?_, ?_⟩
      · rw [digR_len]
        show (l.length + 1) * 8 ≤ _
        omega
      · rw [digR_len]
        show l.length + 1 ≤ _
        omega
      conv => whnf
      refine ⟨by decide, ?_⟩
      conv => whnf
      have e1 : IntKind.i64.wrap ((m : Int).tmod 10) = ((m % 10 : Nat) : Int) := by
        rw [show (m : Int).tmod 10 = ((m % 10 : Nat) : Int) from (Int.ofNat_tmod _ _).symm]
        exact wrap_i64 _ (by omega) (by omega)
      have e2 : IntKind.u64.wrap ((m : Int).tdiv 10) = ((m / 10 : Nat) : Int) := by
        rw [show (m : Int).tdiv 10 = ((m / 10 : Nat) : Int) from (Int.ofNat_tdiv _ _).symm, wrap_u64]
        omega
      refine Nx.intro ⟨(m / 10, l ++ [m % 10]), ?_, by show m / 10 < _; omega, by show (l ++ [m % 10]).length ≤ _; simp; omega⟩ (by simp only; omega) ?_
      · show (l ++ [m % 10]) ++ digs (m / 10) = _
        rw [List.append_assoc, List.singleton_append, ← digs_pos hm, hq1]
      refine Wk.intro [] rfl (fun p hp => by cases hp) ⟨.same rfl (by exact rfl), .same rfl (by exact rfl), .same ?_ trivial, trivial⟩
        ⟨⟨rfl, .inl ⟨rfl, zero2_lt _⟩⟩, ⟨rfl, .inl ⟨?_, big_lt _ _⟩⟩, ⟨rfl, .inl ⟨?_, trivial⟩⟩, trivial⟩
      · exact congrArg (fun z => T.lit (.int .u64 z)) e2
      · show some (Blk.own 2 [[_, T.sl (some 3) 1 (digR l ++ [[_]])]]) = some (Blk.own 2 [[_, T.sl (some 3) 1 (digR (l ++ [m % 10]))]])
        rw [← digR_append]
        exact congrArg (fun z => some (Blk.own 2 [[tb (decide (n < 0)), T.sl (some 3) 1 (digR l ++ [[z]])]])) (i64_cong e1)
      · show some (Blk.tok 1 ((digR l).length + 1)) = some (Blk.tok 1 (digR (l ++ [m % 10])).length)
        rw [digR_len, digR_len, List.length_append]; rfl
    · rw [h]
      have hm : m = 0 := by have := of_decide_eq_false h; omega
      rw [hm, digs_zero, List.append_nil] at hq1
      conv => whnf
      rw [hq1, hb0]
      exact .inl rfl
  · rw [h]
    have h0 := of_decide_eq_false h
    have hb0 := h
    conv => whnf
    refine loop_intro (fun q : {q : Nat × List Nat // q.2 ++ digs q.1 = digs n.natAbs ∧ q.1 < 18446744073709551616 ∧ q.2.length ≤ 1000} => ⟨[(2, .ptr 0 0 0), (3, .ptr 1 0 0), (4, .lit (.int .u64 (q.1.1 : Int)))],
      [(0, .own 2 [[tb false, .lit (.slice none 0 0)]]), (1, .own 2 [[tb (decide (n < 0)), .sl (some 3) 1 (digR q.1.2)]]), (3, .tok 1 (digR q.1.2).length)], 27, 4, []⟩) (fun q => q.1.1) ⟨(n.natAbs, []), rfl, by show n.natAbs < _; omega, by simp⟩ ?_ ?_
    · refine Wk.intro [(3, 1)] rfl (fun p hp => by obtain rfl := List.mem_singleton.1 hp; exact ⟨Nat.le_refl 3, Nat.lt_succ_self 3, fun q hq => by obtain rfl := List.mem_singleton.1 hq; intro _; rfl⟩) ⟨.same rfl (by exact rfl), .same rfl (by exact rfl), .same ?_ trivial, trivial⟩
        ⟨⟨rfl, .inl ⟨rfl, zero2_lt _⟩⟩, ⟨rfl, .inr (.inr ⟨2, _, _, rfl, rfl, ⟨⟨.same ?_ trivial, .inr (.inr (.inr (.inl ⟨rfl, 3, 1, rfl, by simp⟩))), trivial⟩, trivial⟩⟩)⟩, ⟨rfl, .inr (.inl ⟨1, by simp, rfl⟩)⟩, trivial⟩
      · refine congrArg (fun z => T.lit (.int .u64 z)) ?_
        show _ = ((n.natAbs : Nat) : Int)
        simp only [wrap_u64]
        omega
      · exact congrArg tb h.symm
    rintro ⟨⟨m, l⟩, hq1, hq2, hq3⟩
    dsimp only
    dsimp only at hq1 hq2 hq3
    conv => whnf
    refine br_intro (fun h => ?_) (fun h => ?_)
    · rw [h]
      have hm : m ≠ 0 := by have := of_decide_eq_true h; omega
      have hlen : (l ++ digs m).length = (digs n.natAbs).length := by rw [hq1]
      have hl20 : (digs n.natAbs).length ≤ 20 := digs_len 20 _ (Nat.lt_of_le_of_lt (show n.natAbs ≤ 9223372036854775808 by omega) (by decide))
      rw [List.length_append] at hlen
      conv => whnf
      refine ⟨by decide, ?_⟩
      conv => whnf
      refine ⟨rfl, ?_, ?_, ?_⟩
      · rw [digR_len]
        show (l.length + 1) * 8 ≤ _
        omega
      · rw [digR_len]
        show l.length + 1 ≤ _
        omega
      conv => whnf
      refine ⟨by decide, ?_⟩
      conv => whnf
      have e1 : IntKind.i64.wrap ((m : Int).tmod 10) = ((m % 10 : Nat) : Int) := by
        rw [show (m : Int).tmod 10 = ((m % 10 : Nat) : Int) from (Int.ofNat_tmod _ _).symm]
        exact wrap_i64 _ (by omega) (by omega)
      have e2 : IntKind.u64.wrap ((m : Int).tdiv 10) = ((m / 10 : Nat) : Int) := by
        rw [show (m : Int).tdiv 10 = ((m / 10 : Nat) : Int) from (Int.ofNat_tdiv _ _).symm, wrap_u64]
        omega
      refine Nx.intro ⟨(m / 10, l ++ [m % 10]), ?_, by show m / 10 < _; omega, by show (l ++ [m % 10]).length ≤ _; simp; omega⟩ (by simp only; omega) ?_
      · show (l ++ [m % 10]) ++ digs (m / 10) = _
        rw [List.append_assoc, List.singleton_append, ← digs_pos hm, hq1]
      refine Wk.intro [] rfl (fun p hp => by cases hp) ⟨.same rfl (by exact rfl), .same rfl (by exact rfl), .same ?_ trivial, trivial⟩
        ⟨⟨rfl, .inl ⟨rfl, zero2_lt _⟩⟩, ⟨rfl, .inl ⟨?_, big_lt _ _⟩⟩, ⟨rfl, .inl ⟨?_, trivial⟩⟩, trivial⟩
      · exact congrArg (fun z => T.lit (.int .u64 z)) e2
      · show some (Blk.own 2 [[_, T.sl (some 3) 1 (digR l ++ [[_]])]]) = some (Blk.own 2 [[_, T.sl (some 3) 1 (digR (l ++ [m % 10]))]])
        rw [← digR_append]
        exact congrArg (fun z => some (Blk.own 2 [[tb (decide (n < 0)), T.sl (some 3) 1 (digR l ++ [[z]])]])) (i64_cong e1)
      · show some (Blk.tok 1 ((digR l).length + 1)) = some (Blk.tok 1 (digR (l ++ [m % 10])).length)
        rw [digR_len, digR_len, List.length_append]; rfl
    · rw [h]
      have hm : m = 0 := by have := of_decide_eq_false h; omega
      rw [hm, digs_zero, List.append_nil] at hq1
      conv => whnf
      rw [hq1, hb0]
      exact .inl rfl
end Go.AW.Vec
