/- Frames: the reference's writing, walked. -/
import Derived.Test.YtacmiopopcdofaaF9
set_option linter.unusedVariables false
set_option linter.unusedSimpArgs false
namespace Go.AW.Frm
open Go Go.AW Go.Proofs
open Go.AW.Crc
set_option maxRecDepth 10000
set_option pp.maxSteps 600

theorem four_law (x : BitVec 32) : FCm Try.prog 23 [u32 x] [] 0 (.sl (some 0) 1 (bytesR (be4 x))) [(0, .tok 1 4)] := by
  refine FCm_of_awp (fn := Try.f23) (c := bodyC Try.f23) Try.func23 rfl (of_decide_eq_true rfl) [2000000] rfl ?_
  conv => whnf
  refine ⟨by decide, ?_⟩
  conv => whnf
  refine ⟨by decide, ?_⟩
  conv => whnf
  refine ⟨by decide, ?_⟩
  conv => whnf
  refine ⟨by decide, ?_⟩
  conv => whnf
  refine ⟨by decide, ?_⟩
  conv => whnf
  refine ⟨by decide, ?_⟩
  conv => whnf
  have d : ∀ k : Nat, IntKind.u32.wrap ((x.toNat : Int).tdiv (k : Int)) = ((x.toNat / k : Nat) : Int) := by
    intro k
    rw [← Int.ofNat_tdiv, wrap_mod .u32 rfl]
    have := x.isLt
    have h2 : x.toNat / k ≤ x.toNat := Nat.div_le_self _ _
    congr 1
    exact Nat.mod_eq_of_lt (by show _ < 4294967296; omega)
  have m8 : ∀ n : Nat, IntKind.u8.wrap ((n : Int).tmod 256) = ((UInt8.ofNat n).toNat : Int) := by
    intro n
    rw [show (256 : Int) = ((256 : Nat) : Int) from rfl, ← Int.ofNat_tmod, wrap_mod .u8 rfl, UInt8.toNat_ofNat']
    show ((n % 256 % 256 : Nat) : Int) = _
    rw [Nat.mod_mod]
  have e0 : IntKind.u8.wrap (IntKind.u32.wrap ((x.toNat : Int).tdiv 16777216)) = ((UInt8.ofNat (x.toNat / 16777216)).toNat : Int) := by
    rw [show (16777216 : Int) = ((16777216 : Nat) : Int) from rfl, d, wrap_mod .u8 rfl, UInt8.toNat_ofNat']; rfl
  have e1 : IntKind.u8.wrap ((IntKind.u32.wrap ((x.toNat : Int).tdiv 65536)).tmod 256) = ((UInt8.ofNat (x.toNat / 65536)).toNat : Int) := by
    rw [show (65536 : Int) = ((65536 : Nat) : Int) from rfl, d, m8]
  have e2 : IntKind.u8.wrap ((IntKind.u32.wrap ((x.toNat : Int).tdiv 256)).tmod 256) = ((UInt8.ofNat (x.toNat / 256)).toNat : Int) := by
    rw [show (IntKind.u32.wrap ((x.toNat : Int).tdiv 256)) = ((x.toNat / 256 : Nat) : Int) from d 256, m8]
  have e3 : IntKind.u8.wrap ((x.toNat : Int).tmod 256) = ((UInt8.ofNat x.toNat).toNat : Int) := m8 _
  rw [e0, e1, e2, e3]
  refine ⟨[(4, 0)], ⟨rfl, rfl, rfl⟩, .inl rfl, ⟨⟨4, _, rfl, rfl, rfl, rfl, ?_⟩, trivial⟩⟩
  exact trivial

theorem record_law (p : List UInt8) (hp : p.length ≤ 1000000000) : FCv Try.prog 20 [.sl none 1 (bytesR p)] (.sl none 1 (bytesR (recB p))) := by
  have hrb : reachBytes = 140737488351232 := rfl
  refine FCv_of_awp (fn := Try.f20) (c := bodyC Try.f20) Try.func20 rfl (of_decide_eq_true rfl) [1000023] ?_
  conv => whnf
  have e1 : T.lit (.int .u32 (IntKind.u32.wrap ((bytesR p).length : Int))) = u32 (BitVec.ofNat 32 p.length) := by
    rw [bytesR_len, wrap_mod .u32 rfl]
    show T.lit (.int .u32 _) = T.lit (.int .u32 _)
    rw [BitVec.toNat_ofNat]; rfl
  rw [e1]
  refine ⟨[], _, _, _, _, [(1, .tok 1 4)], _, four_law (BitVec.ofNat 32 p.length), ⟨rfl, trivial, rfl, rfl, trivial, rfl, rfl, ⟨⟨rfl, rfl, rfl, trivial⟩, trivial⟩⟩, ?_⟩
  conv => whnf
  have n1 : (Try.prog.types[5]).bytes = 1 := rfl
  have hb4 : ∀ y, (bytesR (be4 y)).length = 4 := fun y => rfl
  refine ⟨rfl, by rw [n1, hb4, bytesR_len]; omega, by rw [hb4, bytesR_len]; omega, ?_⟩
  conv => whnf
  have cut : bytesR (be4 (BitVec.ofNat 32 p.length)) ++ bytesR p = bytesR (body p) := by rw [bytesR_append]; rfl
  have hbl : (body p).length = 4 + p.length := by rw [body, List.length_append, be4_len]
  have sm : FCv Try.prog 24 [.sl none 1 (bytesR (be4 (BitVec.ofNat 32 p.length)) ++ bytesR p)] (u32 (more 0 (body p))) := by
    rw [cut]
    exact rsum_law (body p) (by omega)
  refine ⟨_, sm, ?_⟩
  conv => whnf
  refine ⟨[], _, _, _, _, [(3, .tok 1 4)], _, four_law (more 0 (body p)), ⟨rfl, trivial, rfl, rfl, trivial, rfl, rfl, ⟨⟨rfl, rfl, rfl, trivial⟩, trivial⟩⟩, ?_⟩
  conv => whnf
  refine ⟨rfl, by rw [n1, hb4, cut, bytesR_len, hbl]; omega, by rw [hb4, cut, bytesR_len, hbl]; omega, ?_⟩
  conv => whnf
  have cut2 : bytesR (be4 (more 0 (body p))) ++ (bytesR (be4 (BitVec.ofNat 32 p.length)) ++ bytesR p) = bytesR (recB p) := by rw [cut, bytesR_append]; rfl
  exact .inl (congrArg (T.sl none 1) cut2)

theorem rput_law (b p : List UInt8) (hb : b.length ≤ 1000000000) (hp : p.length ≤ reachBytes) : FCv Try.prog 12 [.sl none 1 (bytesR b), .sl none 1 (bytesR p)] (putT b p) := by
  have hrb : reachBytes = 140737488351232 := rfl
  refine FCv_of_awp (fn := Try.f12) (c := bodyC Try.f12) Try.func12 rfl (of_decide_eq_true rfl) [] ?_
  conv => whnf
  refine br_intro (fun h => ?_) (fun h => ?_)
  · rw [h]
    have h1 := of_decide_eq_true h
    rw [bytesR_len] at h1
    conv => whnf
    unfold putT
    rw [if_pos (by omega)]
    exact ⟨Or.inl rfl, Or.inl rfl, trivial⟩
  rw [h]
  have h1 := of_decide_eq_false h
  rw [bytesR_len] at h1
  conv => whnf
  have n1 : (Try.prog.types[5]).bytes = 1 := rfl
  refine ⟨rfl, by rw [n1, bytesR_len]; show (0 + b.length) * 1 ≤ _; omega, by rw [bytesR_len]; show 0 + b.length ≤ _; omega, ?_⟩
  conv => whnf
  refine ⟨_, record_law p (by omega), ?_⟩
  conv => whnf
  have hrl := recB_len p
  refine ⟨?_, ?_, ?_, ?_⟩
  · simp only [List.length_append]
  · rw [n1, List.length_append, bytesR_len, bytesR_len, hrl]; show (0 + b.length + _) * 1 ≤ _; omega
  · rw [List.length_append, bytesR_len, bytesR_len, hrl]; show 0 + b.length + _ ≤ _; omega
  conv => whnf
  unfold putT
  rw [if_neg (by omega)]
  refine ⟨Or.inl (congrArg (T.sl none 1) ?_), Or.inl rfl, trivial⟩
  rw [List.nil_append, bytesR_append]
end Go.AW.Frm
