/- The laws of the checksum that never draw. -/
import Derived.Test.YtplmbihabncbjaaC2
import Derived.Test.YtplmbihabncbjaaC3
set_option linter.unusedVariables false
set_option linter.unusedSimpArgs false
namespace Go.AW.Crc
open Go Go.AW Go.Proofs
set_option maxRecDepth 10000
set_option pp.maxSteps 300

theorem ends (a b : BitVec 32) (l : List UInt8) : (((((more a l).toNat : Int) == ((more b l).toNat : Int)) : Bool) == (((a.toNat : Int) == (b.toNat : Int)) : Bool)) = true := by
  by_cases h : a = b
  · subst h; simp
  · have h2 : ¬ more a l = more b l := fun e => h (more_inj e)
    have e1 : ((a.toNat : Int) == (b.toNat : Int)) = false := by
      rw [beq_eq_false_iff_ne]; intro e; exact h (BitVec.eq_of_toNat_eq (Int.ofNat.inj e))
    have e2 : (((more a l).toNat : Int) == ((more b l).toNat : Int)) = false := by
      rw [beq_eq_false_iff_ne]; intro e; exact h2 (BitVec.eq_of_toNat_eq (Int.ofNat.inj e))
    rw [e1, e2]; rfl

theorem CrcEnds_law (a b : BitVec 32) (l : List UInt8) (hl : l.length ≤ reachBytes) : FCv Try.prog 6 [u32 a, u32 b, .sl none 1 (bytesR l)] (tb true) := by
  refine FCv_of_awp (fn := Try.f6) (c := bodyC Try.f6) Try.func6 rfl (of_decide_eq_true rfl) [] ?_
  conv => whnf
  refine ⟨_, awake_law, ?_⟩
  conv => whnf
  refine br_intro (fun h => ?_) (fun h => ?_)
  · try rw [h]
    conv => whnf
    exact .inl rfl
  · try rw [h]
    conv => whnf
    refine ⟨_, more_law a l hl, ?_⟩
    conv => whnf
    refine ⟨_, more_law b l hl, ?_⟩
    conv => whnf
    exact .inl (congrArg tb (ends a b l))

theorem CrcJoins_law (a b : List UInt8) (ha : a.length ≤ reachBytes) (hb : b.length ≤ reachBytes) : FCv Try.prog 3 [.sl none 1 (bytesR a), .sl none 1 (bytesR b)] (tb true) := by
  have hrb : reachBytes = 140737488351232 := rfl
  refine FCv_of_awp (fn := Try.f3) (c := bodyC Try.f3) Try.func3 rfl (of_decide_eq_true rfl) [] ?_
  conv => whnf
  refine ⟨_, awake_law, ?_⟩
  conv => whnf
  refine br_intro (fun h => ?_) (fun h => ?_)
  · try rw [h]
    conv => whnf
    exact .inl rfl
  · have h1 := of_decide_eq_false h
    rw [bytesR_len] at h1
    try rw [h]
    conv => whnf
    refine br_intro (fun h => ?_) (fun h => ?_)
    · try rw [h]
      conv => whnf
      exact .inl rfl
    · have h2 := of_decide_eq_false h
      rw [bytesR_len] at h2
      try rw [h]
      conv => whnf
      have n1 : (Try.prog.types[5]).bytes = 1 := rfl
      refine ⟨rfl, by rw [n1, bytesR_len]; show (0 + a.length) * 1 ≤ _; omega, by rw [bytesR_len]; show 0 + a.length ≤ _; omega, ?_⟩
      conv => whnf
      refine ⟨?_, ?_, ?_, ?_⟩
      · simp only [List.length_append]
      · rw [n1, List.length_append, bytesR_len, bytesR_len]; show (0 + a.length + b.length) * 1 ≤ _; omega
      · rw [List.length_append, bytesR_len, bytesR_len]; show 0 + a.length + b.length ≤ _; omega
      conv => whnf
      have e := sum_law (a ++ b) (by rw [List.length_append]; omega)
      rw [← bytesR_append] at e
      refine ⟨_, e, ?_⟩
      conv => whnf
      refine ⟨_, sum_law a ha, ?_⟩
      conv => whnf
      refine ⟨_, more_law _ b hb, ?_⟩
      conv => whnf
      refine .inl (congrArg tb ?_)
      rw [more_append]
      exact beq_self_eq_true _

theorem run_zeros (s : BitVec 32) (m n : Nat) : zeros (zeros s m) n = zeros s (m + n) := by
  simp only [zeros, run, BitVec.not_not]
  rw [← List.foldl_append, List.replicate_append_replicate]

end Go.AW.Crc
