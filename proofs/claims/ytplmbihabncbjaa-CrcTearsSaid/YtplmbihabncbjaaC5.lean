/- The laws of the checksum that never draw, on. -/
import Derived.Test.YtplmbihabncbjaaC4
set_option linter.unusedVariables false
set_option linter.unusedSimpArgs false
namespace Go.AW.Crc
open Go Go.AW Go.Proofs
set_option maxRecDepth 10000
set_option pp.maxSteps 300
theorem CrcZeros_aux (z : BitVec 32 → Nat → BitVec 32) (hz : ∀ (s : BitVec 32) (n : Int), -9223372036854775808 ≤ n → n ≤ 9223372036854775807 → FCv Try.prog 14 [u32 s, i64 n] (u32 (z s n.toNat)))
    (hadd : ∀ s m n, z (z s m) n = z s (m + n)) (h0 : ∀ s, z s 0 = s) (hm : ∀ s, FCv Try.prog 11 [u32 s, .lit (.slice none 0 0)] (u32 s)) (s : BitVec 32) (n m : Int) (hn1 : -9223372036854775808 ≤ n) (hn2 : n ≤ 9223372036854775807) (hm1 : -9223372036854775808 ≤ m) (hm2 : m ≤ 9223372036854775807) :
    FCv Try.prog 8 [u32 s, i64 n, i64 m] (tb true) := by
  refine FCv_of_awp (fn := Try.f8) (c := bodyC Try.f8) Try.func8 rfl (of_decide_eq_true rfl) [] ?_
  conv => whnf
  refine ⟨_, awake_law, ?_⟩
  conv => whnf
  refine br_intro (fun h => ?_) (fun h => ?_)
  · rw [h]
    conv => whnf
    exact .inl rfl
  have h1 := of_decide_eq_false h
  rw [h]
  conv => whnf
  refine br_intro (fun h => ?_) (fun h => ?_)
  · rw [h]
    conv => whnf
    exact .inl rfl
  have h2 := of_decide_eq_false h
  rw [h]
  conv => whnf
  refine br_intro (fun h => ?_) (fun h => ?_)
  · rw [h]
    conv => whnf
    exact .inl rfl
  have h3 := of_decide_eq_false h
  rw [h]
  conv => whnf
  refine br_intro (fun h => ?_) (fun h => ?_)
  · rw [h]
    conv => whnf
    exact .inl rfl
  have h4 := of_decide_eq_false h
  rw [h]
  conv => whnf
  refine ⟨_, hz s n hn1 hn2, ?_⟩
  conv => whnf
  refine ⟨_, hz _ m hm1 hm2, ?_⟩
  conv => whnf
  have e := hz s (n + m) (by omega) (by omega)
  have ew : IntKind.i64.wrap (n + m) = n + m := wrap_i64 _ (by omega) (by omega)
  rw [show i64 (n + m) = i64 (IntKind.i64.wrap (n + m)) by rw [ew]] at e
  refine ⟨_, e, ?_⟩
  conv => whnf
  have e1 : z (z s n.toNat) m.toNat = z s (n + m).toNat := by rw [hadd]; congr 1; omega
  rw [e1, beq_self_eq_true]
  conv => whnf
  refine ⟨_, hz s 0 (by decide) (by decide), ?_⟩
  conv => whnf
  have e2 : z s (Int.toNat 0) = s := h0 s
  rw [e2, beq_self_eq_true]
  conv => whnf
  refine ⟨_, hm s, ?_⟩
  conv => whnf
  exact .inl (congrArg tb (beq_self_eq_true _))

theorem CrcZeros_law (s : BitVec 32) (n m : Int) (hn1 : -9223372036854775808 ≤ n) (hn2 : n ≤ 9223372036854775807) (hm1 : -9223372036854775808 ≤ m) (hm2 : m ≤ 9223372036854775807) :
    FCv Try.prog 8 [u32 s, i64 n, i64 m] (tb true) := by
  refine CrcZeros_aux zeros zeros_law run_zeros (fun s => ?_) (fun s => ?_) s n m hn1 hn2 hm1 hm2
  · simp only [zeros, run, List.replicate_zero, List.foldl_nil, BitVec.not_not]
  · have := more_law s [] (by decide)
    rw [more_nil] at this
    exact this.weak ⟨.same _, .nil 1, trivial⟩
end Go.AW.Crc
