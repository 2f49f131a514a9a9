/- The laws of the checksum that draw. -/
import Derived.Test.YtplmbihabncbjaaC6
import Derived.Test.YtplmbihabncbjaaC5
set_option linter.unusedVariables false
set_option linter.unusedSimpArgs false
namespace Go.AW.Crc
open Go Go.AW Go.Proofs
set_option maxRecDepth 10000
set_option pp.maxSteps 900
theorem CrcSums_law (l : List UInt8) (s : BitVec 32) (n : Int) (hl : l.length ≤ reachBytes) (hn1 : -9223372036854775808 ≤ n) (hn2 : n ≤ 9223372036854775807) :
    FCv Try.prog 7 [.sl none 1 (bytesR l), u32 s, i64 n] (tb true) := by
  have hrb : reachBytes = 140737488351232 := rfl
  refine FCv_of_awp (fn := Try.f7) (c := bodyC Try.f7) Try.func7 rfl (of_decide_eq_true rfl) [] ?_
  conv => whnf
  refine ⟨_, awake_law, ?_⟩
  conv => whnf
  refine br_intro (fun h => ?_) (fun h => ?_)
  · rw [h]
    conv => whnf
    exact .inl rfl
  have h1 := of_decide_eq_false h
  rw [bytesR_len] at h1
  rw [h]
  conv => whnf
  refine br_intro (fun h => ?_) (fun h => ?_)
  · rw [h]
    conv => whnf
    exact .inl rfl
  have h2 := of_decide_eq_false h
  rw [h]
  conv => whnf
  have n1 : (Try.prog.types[5]).bytes = 1 := rfl
  refine ⟨rfl, by rw [n1, bytesR_len]; show (0 + l.length) * 1 ≤ _; omega, by rw [bytesR_len]; show 0 + l.length ≤ _; omega, ?_⟩
  conv => whnf
  refine ⟨_, sum_law l hl, ?_⟩
  conv => whnf
  refine ⟨_, rsum_law l hl, ?_⟩
  conv => whnf
  rw [beq_self_eq_true]
  conv => whnf
  refine ⟨_, more_law s l hl, ?_⟩
  conv => whnf
  refine ⟨_, rmore_law s l hl, ?_⟩
  conv => whnf
  rw [beq_self_eq_true]
  conv => whnf
  refine ⟨l, ⟨rfl, rfl⟩, ?_⟩
  conv => whnf
  refine ⟨l, ⟨rfl, rfl⟩, ?_⟩
  conv => whnf
  rw [beq_self_eq_true]
  conv => whnf
  refine ⟨_, zeros_law s n hn1 hn2, ?_⟩
  conv => whnf
  rw [mxI_zero]
  refine ⟨⟨by omega, by omega, by omega, by rw [n1]; omega⟩, ?_⟩
  conv => whnf
  have e := rmore_law s (List.replicate n.toNat 0) (by rw [List.length_replicate]; omega)
  rw [bytesR_zeros, show more s (List.replicate n.toNat 0) = zeros s n.toNat from rfl] at e
  refine ⟨_, e, ?_⟩
  conv => whnf
  rw [beq_self_eq_true]
  conv => whnf
  exact .inl rfl
end Go.AW.Crc
