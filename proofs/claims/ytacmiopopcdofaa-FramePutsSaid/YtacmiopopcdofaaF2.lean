/- Frames: four bytes of a number. -/
import Derived.Test.YtacmiopopcdofaaF1
set_option linter.unusedVariables false
set_option linter.unusedSimpArgs false
namespace Go.AW.Frm
open Go Go.AW Go.Proofs
open Go.AW.Crc
set_option maxRecDepth 10000
set_option pp.maxSteps 600

def be4 (x : BitVec 32) : List UInt8 := [UInt8.ofNat (x.toNat / 16777216), UInt8.ofNat (x.toNat / 65536), UInt8.ofNat (x.toNat / 256), UInt8.ofNat x.toNat]
theorem be4_len (x : BitVec 32) : (be4 x).length = 4 := rfl
def splL (l : List UInt8) (lo : Nat) (c : List UInt8) : List UInt8 := l.take lo ++ c ++ l.drop (lo + c.length)
theorem set4 (a b c d : UInt8) : ∀ (lo : Nat) (l : List UInt8), lo + 4 ≤ l.length → (((l.set lo a).set (lo + 1) b).set (lo + 2) c).set (lo + 3) d = splL l lo [a, b, c, d]
  | 0, p :: q :: r :: s :: l, _ => rfl
  | 0, [], h => by simp at h
  | 0, [_], h => by simp at h
  | 0, [_, _], h => by simp at h
  | 0, [_, _, _], h => by simp at h
  | lo + 1, [], h => by simp at h
  | lo + 1, x :: l, h => by
    have ih := set4 a b c d lo l (by simp at h; omega)
    have e1 : lo + 1 + 1 = (lo + 1) + 1 := rfl
    simp only [show lo + 1 + 1 = (lo + 1) + 1 from rfl, show lo + 1 + 2 = (lo + 2) + 1 from rfl, show lo + 1 + 3 = (lo + 3) + 1 from rfl, List.set_cons_succ]
    rw [ih]
    simp [splL, Nat.add_right_comm]
theorem byte_of (x : BitVec 32) (k : Nat) (hk : k ≤ 32) : IntKind.u8.wrap ((x.toNat : Int).fdiv (2 ^ min (Int.toNat (k : Int)) IntKind.u32.bits)) = ((UInt8.ofNat (x.toNat / 2 ^ k)).toNat : Int) := by
  refine (congrArg IntKind.u8.wrap (shr_u .u32 rfl x k hk)).trans ?_
  have e : ((x >>> k : BitVec 32)).toNat = x.toNat / 2 ^ k := by rw [BitVec.toNat_ushiftRight, Nat.shiftRight_eq_div_pow]
  rw [wrap_mod .u8 rfl]
  show (((x >>> k : BitVec 32).toNat % 256 : Nat) : Int) = _
  rw [e, UInt8.toNat_ofNat']
theorem byte_of0 (x : BitVec 32) : IntKind.u8.wrap (x.toNat : Int) = ((UInt8.ofNat x.toNat).toNat : Int) := by
  rw [wrap_mod .u8 rfl, UInt8.toNat_ofNat']
  rfl

theorem renB_bytes (σ : List (Nat × Nat)) (l : List UInt8) : renB σ (.own 1 (bytesR l)) = .own 1 (bytesR l) := by
  simp only [renB, bytesR, List.map_map]
  rfl
theorem domB_bytes (σ : List (Nat × Nat)) (l : List UInt8) : domB σ (.own 1 (bytesR l)) := by
  intro row hr c hc
  obtain ⟨b, _, rfl⟩ := List.mem_map.1 hr
  obtain rfl := List.mem_singleton.1 hc
  rfl

theorem put4_law (x : BitVec 32) (l : List UInt8) (lo len : Nat) (h4 : 4 ≤ len) (hl : lo + len ≤ l.length) :
    FCm Try.prog 18 [.sref 0 lo len, u32 x] [(0, .own 1 (bytesR l))] 1 (.tup []) [(0, .own 1 (bytesR (splL l lo (be4 x))))] := by
  refine FCm_of_awp (fn := Try.f18) (c := bodyC Try.f18) Try.func18 rfl (of_decide_eq_true rfl) [2000001] rfl ?_
  obtain ⟨b0, hb0⟩ : ∃ b, l[lo]? = some b := ⟨_, List.getElem?_eq_getElem (by omega)⟩
  obtain ⟨b1, hb1⟩ : ∃ b, l[lo + 1]? = some b := ⟨_, List.getElem?_eq_getElem (by omega)⟩
  obtain ⟨b2, hb2⟩ : ∃ b, l[lo + 2]? = some b := ⟨_, List.getElem?_eq_getElem (by omega)⟩
  obtain ⟨b3, hb3⟩ : ∃ b, l[lo + 3]? = some b := ⟨_, List.getElem?_eq_getElem (by omega)⟩
  conv => whnf
  refine ⟨by decide, ?_⟩
  conv => whnf
  refine ⟨by decide, ?_⟩
  conv => whnf
  refine ⟨by decide, ?_⟩
  conv => whnf
  refine ⟨⟨by decide, by omega⟩, ?_⟩
  conv => whnf
  refine nthK_intro (bytes_get (c := b0) hb0) ?_
  conv => whnf
  refine ⟨⟨by decide, by omega⟩, ?_⟩
  conv => whnf
  refine nthK_intro (x := [.lit (.int .u8 b1.toNat)]) (by rw [List.getElem?_set_ne (by show lo + 0 ≠ lo + 1; omega)]; exact bytes_get hb1) ?_
  conv => whnf
  refine ⟨⟨by decide, by omega⟩, ?_⟩
  conv => whnf
  refine nthK_intro (x := [.lit (.int .u8 b2.toNat)]) (by rw [List.getElem?_set_ne (by show lo + 1 ≠ lo + 2; omega), List.getElem?_set_ne (by show lo + 0 ≠ lo + 2; omega)]; exact bytes_get hb2) ?_
  conv => whnf
  refine ⟨⟨by decide, by omega⟩, ?_⟩
  conv => whnf
  refine nthK_intro (x := [.lit (.int .u8 b3.toNat)]) (by rw [List.getElem?_set_ne (by show lo + 2 ≠ lo + 3; omega), List.getElem?_set_ne (by show lo + 1 ≠ lo + 3; omega), List.getElem?_set_ne (by show lo + 0 ≠ lo + 3; omega)]; exact bytes_get hb3) ?_
  conv => whnf
  have rows : ∀ (v0 v1 v2 v3 : Int), v0 = ((UInt8.ofNat (x.toNat / 16777216)).toNat : Int) → v1 = ((UInt8.ofNat (x.toNat / 65536)).toNat : Int) → v2 = ((UInt8.ofNat (x.toNat / 256)).toNat : Int) → v3 = ((UInt8.ofNat x.toNat).toNat : Int) →
      ((((bytesR l).set lo [T.lit (.int .u8 v0)]).set (lo + 1) [T.lit (.int .u8 v1)]).set (lo + 2) [T.lit (.int .u8 v2)]).set (lo + 3) [T.lit (.int .u8 v3)] = bytesR (splL l lo (be4 x)) := by
    rintro _ _ _ _ rfl rfl rfl rfl
    rw [bytesR_setB, bytesR_setB, bytesR_setB, bytesR_setB, set4 _ _ _ _ lo l (by omega)]
    rfl
  have r2 := rows _ _ _ _ (byte_of x 24 (by decide)) (byte_of x 16 (by decide)) (byte_of x 8 (by decide)) (byte_of0 x)
  refine ⟨[(0, 0)], ⟨rfl, rfl, rfl⟩, trivial, ⟨⟨0, _, rfl, rfl, rfl, ?_, ?_⟩, trivial⟩⟩
  · exact (congrArg (fun z => renB [(0, 0)] (Blk.own 1 z)) r2).trans (renB_bytes _ _)
  · exact Eq.mpr (congrArg (fun z => domB [(0, 0)] (Blk.own 1 z)) r2) (domB_bytes _ _)

/-- A number, of its four bytes. -/
def rd4 : List UInt8 → Nat
  | a :: b :: c :: d :: _ => a.toNat * 16777216 + b.toNat * 65536 + c.toNat * 256 + d.toNat
  | _ => 0
theorem rd4_lt (l : List UInt8) : rd4 l < 4294967296 := by
  unfold rd4
  split
  · rename_i a b c d _
    have := a.toNat_lt; have := b.toNat_lt; have := c.toNat_lt; have := d.toNat_lt
    omega
  · decide
theorem rd4_be4 (x : BitVec 32) (r : List UInt8) : rd4 (be4 x ++ r) = x.toNat := by
  show (UInt8.ofNat (x.toNat / 16777216)).toNat * 16777216 + (UInt8.ofNat (x.toNat / 65536)).toNat * 65536 + (UInt8.ofNat (x.toNat / 256)).toNat * 256 + (UInt8.ofNat x.toNat).toNat = _
  have := x.isLt
  simp only [UInt8.toNat_ofNat']
  omega
theorem shl_byte (a : UInt8) (k : Nat) (hk : k ≤ 24) : IntKind.u32.wrap (IntKind.u32.wrap (a.toNat : Int) * 2 ^ min (Int.toNat (k : Int)) IntKind.u32.bits) = ((BitVec.ofNat 32 (a.toNat * 2 ^ k)).toNat : Int) := by
  have ha := a.toNat_lt
  rw [wrap_nat .u32 rfl a.toNat (by show _ < 2 ^ 32; omega), Int.toNat_natCast, show IntKind.u32.bits = 32 from rfl, Nat.min_eq_left (by omega)]
  rw [show (a.toNat : Int) * 2 ^ k = ((a.toNat * 2 ^ k : Nat) : Int) by push_cast; rfl, wrap_mod .u32 rfl, BitVec.toNat_ofNat]
  rfl
theorem or_nat {x y : Nat} {i : Nat} (a : Nat) (hx : x = a * 2 ^ i) (hy : y < 2 ^ i) : x ||| y = x + y := by
  subst hx
  rw [← Nat.shiftLeft_eq, Nat.shiftLeft_add_eq_or_of_lt hy]

theorem get4_law (l : List UInt8) (hl : 4 ≤ l.length) : FCv Try.prog 21 [.sl none 1 (bytesR l)] (u32 (BitVec.ofNat 32 (rd4 l))) := by
  match l, hl with
  | a :: b :: c :: d :: r, _ =>
    refine FCv_of_awp (fn := Try.f21) (c := bodyC Try.f21) Try.func21 rfl (of_decide_eq_true rfl) [] ?_
    conv => whnf
    refine ⟨by decide, nthK_intro (x := [.lit (.int .u8 a.toNat)]) rfl ?_⟩
    conv => whnf
    refine ⟨by decide, ?_⟩
    conv => whnf
    refine ⟨by decide, nthK_intro (x := [.lit (.int .u8 b.toNat)]) rfl ?_⟩
    conv => whnf
    refine ⟨by decide, ?_⟩
    conv => whnf
    refine ⟨by decide, nthK_intro (x := [.lit (.int .u8 c.toNat)]) rfl ?_⟩
    conv => whnf
    refine ⟨by decide, ?_⟩
    conv => whnf
    refine ⟨by decide, nthK_intro (x := [.lit (.int .u8 d.toNat)]) rfl ?_⟩
    conv => whnf
    refine .inl (congrArg (fun z => T.lit (.int .u32 z)) ?_)
    have ha := a.toNat_lt
    have hb := b.toNat_lt
    have hc := c.toNat_lt
    have hd := d.toNat_lt
    have e1 := shl_byte a 24 (by decide)
    have e2 := shl_byte b 16 (by decide)
    have e3 := shl_byte c 8 (by decide)
    have e4 : IntKind.u32.wrap (d.toNat : Int) = ((BitVec.ofNat 32 d.toNat).toNat : Int) := by
      rw [wrap_nat .u32 rfl d.toNat (by show _ < 2 ^ 32; omega), BitVec.toNat_ofNat]
      omega
    refine Eq.trans (b := bitsI .or .u32 (bitsI .or .u32 (bitsI .or .u32 ((BitVec.ofNat 32 (a.toNat * 2 ^ 24)).toNat : Int) ((BitVec.ofNat 32 (b.toNat * 2 ^ 16)).toNat : Int)) ((BitVec.ofNat 32 (c.toNat * 2 ^ 8)).toNat : Int)) ((BitVec.ofNat 32 d.toNat).toNat : Int)) ?_ ?_
    · rw [← e1, ← e2, ← e3, ← e4]; rfl
    · rw [or32, or32, or32]
      congr 2
      apply BitVec.eq_of_toNat_eq
      rw [BitVec.toNat_or, BitVec.toNat_or, BitVec.toNat_or, BitVec.toNat_ofNat, BitVec.toNat_ofNat, BitVec.toNat_ofNat, BitVec.toNat_ofNat, BitVec.toNat_ofNat]
      have m1 : a.toNat * 2 ^ 24 % 2 ^ 32 = a.toNat * 2 ^ 24 := Nat.mod_eq_of_lt (by omega)
      have m2 : b.toNat * 2 ^ 16 % 2 ^ 32 = b.toNat * 2 ^ 16 := Nat.mod_eq_of_lt (by omega)
      have m3 : c.toNat * 2 ^ 8 % 2 ^ 32 = c.toNat * 2 ^ 8 := Nat.mod_eq_of_lt (by omega)
      have m4 : d.toNat % 2 ^ 32 = d.toNat := Nat.mod_eq_of_lt (by omega)
      have o1 : a.toNat * 2 ^ 24 ||| b.toNat * 2 ^ 16 = a.toNat * 2 ^ 24 + b.toNat * 2 ^ 16 := or_nat (i := 24) a.toNat rfl (by omega)
      have o2 : (a.toNat * 2 ^ 24 + b.toNat * 2 ^ 16) ||| c.toNat * 2 ^ 8 = (a.toNat * 2 ^ 24 + b.toNat * 2 ^ 16) + c.toNat * 2 ^ 8 := or_nat (i := 16) (a.toNat * 256 + b.toNat) (by omega) (by omega)
      have o3 : ((a.toNat * 2 ^ 24 + b.toNat * 2 ^ 16) + c.toNat * 2 ^ 8) ||| d.toNat = ((a.toNat * 2 ^ 24 + b.toNat * 2 ^ 16) + c.toNat * 2 ^ 8) + d.toNat := or_nat (i := 8) (a.toNat * 65536 + b.toNat * 256 + c.toNat) (by omega) (by omega)
      rw [m1, m2, m3, m4, o1, o2, o3]
      show _ = rd4 (a :: b :: c :: d :: r) % 2 ^ 32
      simp only [rd4]
      omega
end Go.AW.Frm
