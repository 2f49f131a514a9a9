/- The document's checksum, walked. -/
import Derived.Test.YtplmbihabncbjaaC4
set_option linter.unusedVariables false
set_option linter.unusedSimpArgs false
namespace Go.AW.Crc
open Go Go.AW Go.Proofs
set_option maxRecDepth 10000
set_option pp.maxSteps 600

theorem bit_odd {x : BitVec 32} (h : x.toNat % 2 = 1) : bit x = x >>> 1 ^^^ 3988292384#32 := by
  have h3 : (x &&& 1#32).toNat = x.toNat % 2 := by rw [BitVec.toNat_and]; exact Nat.and_one_is_mod _
  unfold bit
  rcases and1 x with e | e
  · rw [e] at h3
    have h5 : (0#32).toNat = 0 := rfl
    omega
  · rw [e]; rfl
theorem bit_even {x : BitVec 32} (h : x.toNat % 2 = 0) : bit x = x >>> 1 := by
  have h3 : (x &&& 1#32).toNat = x.toNat % 2 := by rw [BitVec.toNat_and]; exact Nat.and_one_is_mod _
  unfold bit
  rcases and1 x with e | e
  · rw [e, show 3988292384#32 * 0#32 = 0#32 from by decide, BitVec.xor_zero]
  · rw [e] at h3
    have h5 : (1#32).toNat = 1 := rfl
    omega
theorem half (x : BitVec 32) : IntKind.u32.wrap ((x.toNat : Int).tdiv 2) = ((x >>> 1).toNat : Int) := by
  have e : (x >>> 1).toNat = x.toNat / 2 := by rw [BitVec.toNat_ushiftRight, Nat.shiftRight_eq_div_pow]
  rw [e, show (x.toNat : Int).tdiv 2 = ((x.toNat / 2 : Nat) : Int) from (Int.ofNat_tdiv _ _).symm]
  exact wrap_nat .u32 rfl _ (by have := x.isLt; show _ < 2 ^ 32; omega)
theorem odd_int (x : BitVec 32) : (x.toNat : Int).tmod 2 = ((x.toNat % 2 : Nat) : Int) := (Int.ofNat_tmod _ _).symm

theorem rstep_law (s b : BitVec 32) : FCv Try.prog 16 [u32 s, u32 b] (u32 (bit (s ^^^ b))) := by
  refine FCv_of_awp (fn := Try.f16) (c := bodyC Try.f16) Try.func16 rfl (of_decide_eq_true rfl) [] ?_
  conv => whnf
  refine ⟨by decide, ?_⟩
  conv => whnf
  refine ⟨by decide, ?_⟩
  conv => whnf
  refine br_intro (fun h => ?_) (fun h => ?_)
  · conv => whnf
    rw [xor32, odd_int, beq_iff_eq] at h
    refine .inl (congrArg (fun z => T.lit (.int .u32 z)) ?_)
    rw [bit_odd (x := s ^^^ b) (by omega), xor32, half]
    exact xor32 _ 3988292384#32
  · conv => whnf
    rw [xor32, odd_int, beq_eq_false_iff_ne] at h
    refine .inl (congrArg (fun z => T.lit (.int .u32 z)) ?_)
    rw [bit_even (x := s ^^^ b) (by omega), xor32]
    exact half _

/-- Within a byte: the sum behind `k` bits of it. -/
def mid (s : BitVec 32) (c : UInt8) (k : Nat) : BitVec 32 := bits (s ^^^ c.toBitVec.setWidth 32) k ^^^ (c.toBitVec.setWidth 32) >>> k
def rest (c : UInt8) (k : Nat) : Int := ((c.toNat / 2 ^ k : Nat) : Int)

theorem bit_low (y : BitVec 32) : bit (y ^^^ (y &&& 1#32)) = y >>> 1 := by
  have h3 : (y &&& 1#32).toNat = y.toNat % 2 := by rw [BitVec.toNat_and]; exact Nat.and_one_is_mod _
  rw [bit_xor]
  rcases and1 y with e | e
  · rw [e] at h3 ⊢
    have h5 : (0#32).toNat = 0 := rfl
    rw [bit_even (x := y) (by omega), show bit 0#32 = 0#32 from by decide, BitVec.xor_zero]
  · rw [e] at h3 ⊢
    have h5 : (1#32).toNat = 1 := rfl
    rw [bit_odd (x := y) (by omega), show bit 1#32 = 3988292384#32 from by decide, BitVec.xor_assoc, BitVec.xor_self, BitVec.xor_zero]

theorem mid_zero (s : BitVec 32) (c : UInt8) : mid s c 0 = s := by
  unfold mid
  rw [BitVec.ushiftRight_zero, bits, BitVec.xor_assoc, BitVec.xor_self, BitVec.xor_zero]
theorem mid_step (s : BitVec 32) (c : UInt8) (k : Nat) : bit (mid s c k ^^^ ((c.toBitVec.setWidth 32) >>> k &&& 1#32)) = mid s c (k + 1) := by
  unfold mid
  generalize hy : (c.toBitVec.setWidth 32) >>> k = y
  rw [BitVec.xor_assoc, bit_xor, bit_low]
  rw [BitVec.shiftRight_add, hy]
  rfl
theorem mid_eight (s : BitVec 32) (c : UInt8) : mid s c 8 = stepB s c := by
  rw [stepB_bits]
  unfold mid
  have : (c.toBitVec.setWidth 32) >>> 8 = 0#32 := by
    apply BitVec.eq_of_toNat_eq
    rw [BitVec.toNat_ushiftRight, Nat.shiftRight_eq_div_pow, BitVec.toNat_setWidth]
    have := c.toBitVec.isLt
    rw [Nat.mod_eq_of_lt (by omega)]
    show _ / 256 = 0
    omega
  rw [this, BitVec.xor_zero]
theorem low_bit (c : UInt8) (k : Nat) : IntKind.u32.wrap ((rest c k).tmod 2) = (((c.toBitVec.setWidth 32) >>> k &&& 1#32).toNat : Int) := by
  have e : ((c.toBitVec.setWidth 32) >>> k &&& 1#32).toNat = (c.toNat / 2 ^ k) % 2 := by
    rw [BitVec.toNat_and]
    refine (Nat.and_one_is_mod _).trans ?_
    rw [BitVec.toNat_ushiftRight, Nat.shiftRight_eq_div_pow, BitVec.toNat_setWidth]
    have := c.toBitVec.isLt
    rw [Nat.mod_eq_of_lt (show c.toBitVec.toNat < 2 ^ 32 by omega)]
    rfl
  rw [e, rest, show ((c.toNat / 2 ^ k : Nat) : Int).tmod 2 = ((c.toNat / 2 ^ k % 2 : Nat) : Int) from (Int.ofNat_tmod _ _).symm]
  exact wrap_nat .u32 rfl _ (by show _ < 2 ^ 32; omega)
theorem rest_step (c : UInt8) (k : Nat) : IntKind.u8.wrap ((rest c k).tdiv 2) = rest c (k + 1) := by
  rw [rest, rest, show ((c.toNat / 2 ^ k : Nat) : Int).tdiv 2 = ((c.toNat / 2 ^ k / 2 : Nat) : Int) from (Int.ofNat_tdiv _ _).symm]
  rw [Nat.div_div_eq_div_mul, ← Nat.pow_succ]
  refine wrap_nat .u8 rfl _ ?_
  show _ < 256
  have := c.toNat_lt
  exact Nat.lt_of_le_of_lt (Nat.div_le_self _ _) this
theorem rest_zero (c : UInt8) : rest c 0 = c.toNat := by simp [rest]
theorem all_sub (x : BitVec 32) : IntKind.u32.wrap (4294967295 - (x.toNat : Int)) = ((~~~ x).toNat : Int) := by
  have := x.isLt
  rw [show (4294967295 - (x.toNat : Int)) = ((4294967295 - x.toNat : Nat) : Int) by omega, wrap_nat .u32 rfl _ (by show _ < 2 ^ 32; omega), BitVec.toNat_not]

theorem rmore_law (s : BitVec 32) (l : List UInt8) (hl : l.length ≤ reachBytes) : FCv Try.prog 13 [u32 s, .sl none 1 (bytesR l)] (u32 (more s l)) := by
  have hrb : reachBytes = 140737488351232 := rfl
  have hlen : (bytesR l).length = l.length := List.length_map _
  refine FCv_of_awp (fn := Try.f13) (c := bodyC Try.f13) Try.func13 rfl (of_decide_eq_true rfl) [] ?_
  conv => whnf
  refine loop_intro (fun i : Fin (l.length + 1) => ⟨[(1, .sl none 1 (bytesR l)), (5, u32 (run (~~~ s) (l.take i))), (6, i64 i)], [], 34, 0, []⟩) (fun i => l.length - i) 0 ?_ ?_
  · refine Wk.intro [] rfl (fun p hp => by cases hp) ⟨.same rfl trivial, .same ?_ trivial, .same rfl trivial, trivial⟩ trivial
    exact congrArg (fun z => T.lit (.int .u32 z)) (all_sub _)
  intro i
  conv => whnf
  refine br_intro (fun h => ?_) (fun h => ?_)
  · have hi : i.val < l.length := by have := of_decide_eq_true h; omega
    obtain ⟨c, hc⟩ : ∃ c, l[i.val]? = some c := ⟨_, List.getElem?_eq_getElem hi⟩
    conv => whnf
    refine ⟨by omega, nthK_intro (bytes_get hc) ?_⟩
    conv => whnf
    refine loop_intro (fun k : Fin 9 => ⟨[(1, .sl none 1 (bytesR l)), (5, u32 (mid (run (~~~ s) (l.take i)) c k)), (6, i64 i), (7, .lit (.int .u8 (rest c k))), (8, i64 k)], [], 34, 0, []⟩) (fun k => 8 - k) 0 ?_ ?_
    · refine Wk.intro [] rfl (fun p hp => by cases hp) ⟨.same rfl trivial, .same ?_ trivial, .same rfl trivial, .same ?_ trivial, .same rfl trivial, trivial⟩ trivial
      · exact congrArg u32 (mid_zero _ _).symm
      · exact congrArg (fun z => T.lit (.int .u8 z)) (rest_zero c).symm
    intro k
    conv => whnf
    refine br_intro (fun h2 => ?_) (fun h2 => ?_)
    · have hk : k.val < 8 := by have := of_decide_eq_true h2; omega
      conv => whnf
      refine ⟨by decide, ?_⟩
      conv => whnf
      rw [low_bit]
      refine ⟨_, rstep_law _ _, ?_⟩
      conv => whnf
      refine ⟨by decide, ?_⟩
      conv => whnf
      refine Nx.intro ⟨k + 1, by omega⟩ (by simp only; omega) ?_
      refine Wk.intro [] rfl (fun p hp => by cases hp) ⟨.same rfl trivial, .same ?_ trivial, .same rfl trivial, .same ?_ trivial, .same ?_ trivial, trivial⟩ trivial
      · exact congrArg u32 (mid_step _ _ _)
      · exact congrArg (fun z => T.lit (.int .u8 z)) (rest_step c k)
      · exact congrArg (fun z => T.lit (.int .i64 z)) (wrap_i64 _ (by omega) (by omega))
    · have hk : k.val = 8 := by have := of_decide_eq_false h2; omega
      conv => whnf
      refine Nx.intro ⟨i + 1, by omega⟩ (by simp only; omega) ?_
      refine Wk.intro [] rfl (fun p hp => by cases hp) ⟨.same rfl trivial, .same ?_ trivial, .same ?_ trivial, trivial⟩ trivial
      · refine congrArg u32 ?_
        rw [hk, mid_eight, run_take _ _ _ _ hc]
      · exact congrArg (fun z => T.lit (.int .i64 z)) (wrap_i64 _ (by omega) (by omega))
  · have hi : i.val = l.length := by have := of_decide_eq_false h; omega
    conv => whnf
    refine .inl ?_
    refine congrArg (fun z => T.lit (.int .u32 z)) ?_
    rw [hi, List.take_length]
    exact all_sub _

theorem rsum_law (l : List UInt8) (hl : l.length ≤ reachBytes) : FCv Try.prog 12 [.sl none 1 (bytesR l)] (u32 (more 0 l)) := by
  refine FCv_of_awp (fn := Try.f12) (c := bodyC Try.f12) Try.func12 rfl (of_decide_eq_true rfl) [] ?_
  conv => whnf
  refine ⟨_, rmore_law 0 l hl, ?_⟩
  conv => whnf
  exact .inl rfl
end Go.AW.Crc
