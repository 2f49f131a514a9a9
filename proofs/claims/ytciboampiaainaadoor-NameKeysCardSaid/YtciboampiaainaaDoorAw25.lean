/- Numbers: the machine's words told by bit vectors. -/
import Derived.Test.YtciboampiaainaaDoorAw24
set_option linter.unusedVariables false
set_option linter.unusedSimpArgs false
set_option linter.unusedSectionVars false
namespace Go.AW
open Go

def u8 (x : BitVec 8) : T := .lit (.int .u8 x.toNat)
def u16 (x : BitVec 16) : T := .lit (.int .u16 x.toNat)
def u32 (x : BitVec 32) : T := .lit (.int .u32 x.toNat)
def u64 (x : BitVec 64) : T := .lit (.int .u64 x.toNat)
def i64 (x : Int) : T := .lit (.int .i64 x)
def tb (b : Bool) : T := .lit (.bool b)
def str (s : ByteArray) : T := .lit (.string s)

theorem wrap_nat (k : IntKind) (hk : k.signed = false) (n : Nat) (h : n < 2 ^ k.bits) : k.wrap n = n := by
  simp only [IntKind.wrap, hk, Bool.false_and, Bool.false_eq_true, if_false]
  rw [Int.emod_eq_of_lt (Int.natCast_nonneg n)]
  exact_mod_cast h

theorem wrap_i64 (n : Int) (h : -9223372036854775808 ≤ n) (h' : n ≤ 9223372036854775807) : IntKind.i64.wrap n = n := by
  have e1 : (2 : Int) ^ IntKind.i64.bits = 18446744073709551616 := by decide
  have e2 : (2 : Int) ^ (IntKind.i64.bits - 1) = 9223372036854775808 := by decide
  simp only [IntKind.wrap, e1, e2, show IntKind.i64.signed = true from rfl, Bool.true_and, decide_eq_true_eq]
  split <;> rename_i h0 <;> omega

theorem wrap_mod (k : IntKind) (hk : k.signed = false) (n : Nat) : k.wrap n = ((n % 2 ^ k.bits : Nat) : Int) := by
  simp only [IntKind.wrap, hk, Bool.false_and, Bool.false_eq_true, if_false]
  push_cast
  rfl

theorem ofInt_nat (n : Nat) (x : BitVec n) : BitVec.ofInt n (x.toNat : Int) = x := by simp

theorem wrap_bits (k : IntKind) (hk : k.signed = false) (x : BitVec k.bits) : k.wrap (x.toNat : Int) = x.toNat := wrap_nat k hk _ x.isLt

section
variable (k : IntKind) (hk : k.signed = false) (x y : BitVec k.bits)
include hk
theorem xor_u : bitsI .xor k x.toNat y.toNat = ((x ^^^ y).toNat : Int) := by simp only [bitsI, ofInt_nat]; exact wrap_bits k hk _
theorem and_u : bitsI .and k x.toNat y.toNat = ((x &&& y).toNat : Int) := by simp only [bitsI, ofInt_nat]; exact wrap_bits k hk _
theorem or_u : bitsI .or k x.toNat y.toNat = ((x ||| y).toNat : Int) := by simp only [bitsI, ofInt_nat]; exact wrap_bits k hk _
theorem shr_u (n : Nat) (h : n ≤ k.bits) : (x.toNat : Int).fdiv (2 ^ (min (Int.toNat n) k.bits)) = ((x >>> n).toNat : Int) := by
  rw [Int.toNat_natCast, Nat.min_eq_left h, BitVec.toNat_ushiftRight, Nat.shiftRight_eq_div_pow, Int.fdiv_eq_ediv_of_nonneg _ (by exact_mod_cast Nat.zero_le _)]
  push_cast
  rfl
theorem shl_u (n : Nat) (h : n ≤ k.bits) : k.wrap ((x.toNat : Int) * 2 ^ (min (Int.toNat n) k.bits)) = ((x <<< n).toNat : Int) := by
  rw [Int.toNat_natCast, Nat.min_eq_left h, BitVec.toNat_shiftLeft, Nat.shiftLeft_eq]
  have := wrap_mod k hk (x.toNat * 2 ^ n)
  push_cast at this ⊢
  exact this
theorem mul_u : k.wrap ((x.toNat : Int) * y.toNat) = ((x * y).toNat : Int) := by
  rw [BitVec.toNat_mul]
  have := wrap_mod k hk (x.toNat * y.toNat)
  push_cast at this ⊢
  exact this
theorem add_u : k.wrap ((x.toNat : Int) + y.toNat) = ((x + y).toNat : Int) := by
  rw [BitVec.toNat_add]
  have := wrap_mod k hk (x.toNat + y.toNat)
  push_cast at this ⊢
  exact this
end

theorem xor32 (x y : BitVec 32) : bitsI .xor .u32 x.toNat y.toNat = ((x ^^^ y).toNat : Int) := xor_u .u32 rfl x y
theorem and32 (x y : BitVec 32) : bitsI .and .u32 x.toNat y.toNat = ((x &&& y).toNat : Int) := and_u .u32 rfl x y
theorem or32 (x y : BitVec 32) : bitsI .or .u32 x.toNat y.toNat = ((x ||| y).toNat : Int) := or_u .u32 rfl x y
theorem mul32 (x y : BitVec 32) : IntKind.u32.wrap ((x.toNat : Int) * y.toNat) = ((x * y).toNat : Int) := mul_u .u32 rfl x y
theorem add32 (x y : BitVec 32) : IntKind.u32.wrap ((x.toNat : Int) + y.toNat) = ((x + y).toNat : Int) := add_u .u32 rfl x y
theorem xor8 (x y : BitVec 8) : bitsI .xor .u8 x.toNat y.toNat = ((x ^^^ y).toNat : Int) := xor_u .u8 rfl x y
theorem not32 (x : BitVec 32) : bitsI .xor .u32 (if IntKind.u32.signed = true then -1 else IntKind.u32.max) x.toNat = ((~~~ x).toNat : Int) := by
  have : (if IntKind.u32.signed = true then (-1 : Int) else IntKind.u32.max) = ((BitVec.allOnes 32).toNat : Int) := by decide
  rw [this, xor32, BitVec.allOnes_xor]
theorem toU8 (x : BitVec 32) : IntKind.u8.wrap (x.toNat : Int) = ((x.setWidth 8).toNat : Int) := by
  rw [wrap_mod .u8 rfl, BitVec.toNat_setWidth]
  rfl
theorem toU32 (n : Int) (h : 0 ≤ n) : IntKind.u32.wrap n = ((BitVec.ofNat 32 n.toNat).toNat : Int) := by
  obtain ⟨m, rfl⟩ := Int.eq_ofNat_of_zero_le h
  rw [wrap_mod .u32 rfl, BitVec.toNat_ofNat]
  rfl

theorem spl_set (r : List T) (n : Nat) (x : T) (h : n < r.length) : spl r n [x] = r.set n x := by
  induction r generalizing n with
  | nil => simp at h
  | cons y r ih =>
    cases n with
    | zero => simp [spl]
    | succ n => simp only [spl, List.set_cons_succ]; rw [ih n (by simpa using h)]

end Go.AW
