import Derived.Test.YtagligpagpaceaaWirW3
import Derived.Test.YtagligpagpaceaaP2
/- The wire: encoding, walked. -/
set_option linter.unusedVariables false
set_option linter.unusedSimpArgs false
namespace Go.AW.Wir
open Go Go.AW Go.Proofs
set_option maxRecDepth 10000
set_option pp.maxSteps 60

theorem shr8 (n : Nat) : (n : Int).fdiv (2 ^ min (Int.toNat 8) IntKind.u64.bits) = ((n / 256 : Nat) : Int) := by
  have e : (2 : Int) ^ min (Int.toNat 8) IntKind.u64.bits = ((256 : Nat) : Int) := by decide
  rw [e, ← Int.ofNat_fdiv]
theorem toU8n (n : Nat) : IntKind.u8.wrap (n : Int) = (((UInt8.ofNat n).toNat : Nat) : Int) := by
  rw [wrap_mod .u8 rfl]
  rfl
abbrev tkM (b : List UInt8) : Mem := [(0, .tok 1 b.length)]
theorem cnt_law (b : List UInt8) (hb : b.length ≤ 1000000000) (n : Nat) (hn : n < 18446744073709551616) : FCm Try.prog 30 [.sl (some 0) 1 (bytesR b), u64 n] (tkM b) 1 (.sl (some 0) 1 (bytesR (b ++ cntB n))) (tkM (b ++ cntB n)) := by
  refine FCm_of_awp (fn := Try.f30) (c := bodyC Try.f30) Try.func30 rfl (of_decide_eq_true rfl) [2000001] rfl ?_
  conv => whnf
  refine loop_intro (fun y : { p : List UInt8 × Nat // p.1.length ≤ 8 ∧ p.2 < 256 ^ (8 - p.1.length) ∧ p.1 ++ leF (8 - p.1.length) p.2 = le n } =>
    ⟨[(0, .sl (some 0) 1 (bytesR b)), (1, u64 y.1.2), (5, .sl (some 1) 1 (bytesR y.1.1))], [(0, .tok 1 b.length), (1, .tok 1 y.1.1.length)], 37, 2, [2000001]⟩) (fun y => y.1.2) ⟨([], n), Nat.zero_le _, hn, rfl⟩ ?_ ?_
  · exact Wk.intro [(1, 1)] rfl (fun p hp => by obtain rfl := List.mem_singleton.1 hp; exact ⟨Nat.le_of_ble_eq_true rfl, Nat.le_of_ble_eq_true rfl, fun q hq _ => List.mem_singleton.1 hq⟩)
      ⟨.same rfl (by exact rfl), .same rfl trivial, .inr (.inr (.inr (.inl ⟨rfl, 1, 1, rfl, by simp⟩))), trivial⟩ ⟨⟨rfl, .inl ⟨rfl, trivial⟩⟩, ⟨rfl, .inr (.inl ⟨1, by simp, rfl⟩)⟩, trivial⟩
  rintro ⟨⟨l, m⟩, g1, g2, g3⟩
  dsimp only at g1 g2 g3 ⊢
  conv => whnf
  refine br_intro (fun h => ?_) (fun h => ?_) <;> (rw [h]; conv => whnf)
  · have hm : m ≠ 0 := by have := of_decide_eq_true h; omega
    obtain ⟨f, hf⟩ : ∃ f, 8 - l.length = f + 1 := by
      cases e : 8 - l.length with
      | zero => rw [e] at g2; exact absurd g2 (by omega)
      | succ f => exact ⟨f, rfl⟩
    have nb : (Try.prog.types[5]).bytes = 1 := rfl
    refine ⟨bytesR_len _, by rw [nb, bytesR_len]; show (l.length + 1) * 1 ≤ _; omega, by rw [bytesR_len]; show l.length + 1 ≤ _; omega, ?_⟩
    conv => whnf
    refine ⟨by decide, ?_⟩
    conv => whnf
    have hlen : (l ++ [UInt8.ofNat m]).length = l.length + 1 := by simp
    have hrows : bytesR l ++ [[T.lit (.int .u8 (IntKind.u8.wrap (m : Int)))]] = bytesR (l ++ [UInt8.ofNat m]) := by
      rw [toU8n, ← bytesR_append]; rfl
    refine Nx.intro ⟨(l ++ [UInt8.ofNat m], m / 256), by dsimp only; omega, ?_, ?_⟩ (by dsimp only; omega) ?_
    · dsimp only
      rw [hlen, show 8 - (l.length + 1) = f by omega]
      rw [hf, Nat.pow_succ, Nat.mul_comm] at g2
      exact Nat.div_lt_of_lt_mul g2
    · dsimp only
      rw [hlen, show 8 - (l.length + 1) = f by omega, List.append_assoc]
      rw [hf] at g3
      refine Eq.trans ?_ g3
      show l ++ (UInt8.ofNat m :: leF f (m / 256)) = l ++ (if m = 0 then [] else UInt8.ofNat m :: leF f (m / 256))
      rw [if_neg hm]
    · refine Wk.intro [] rfl (fun p hp => by cases hp) ⟨.same rfl (by exact rfl), .same (congrArg (fun z => T.lit (.int .u64 z)) (shr8 m)) trivial, .same (congrArg (T.sl (some 1) 1) hrows) (by exact rfl), trivial⟩
        ⟨⟨rfl, .inl ⟨rfl, trivial⟩⟩, ⟨rfl, .inl ⟨?_, trivial⟩⟩, trivial⟩
      show some (Blk.tok 1 ((bytesR l).length + 1)) = _
      rw [bytesR_len, hlen]
  · obtain rfl : m = 0 := by have := of_decide_eq_false h; omega
    obtain rfl : l = le n := by rw [← g3]; cases 8 - l.length <;> simp [leF]
    have nb : (Try.prog.types[5]).bytes = 1 := rfl
    refine ⟨bytesR_len _, by rw [nb, bytesR_len]; show (b.length + 1) * 1 ≤ _; omega, by rw [bytesR_len]; show b.length + 1 ≤ _; omega, ?_⟩
    conv => whnf
    have h8 := le_len n
    unfold cntB
    generalize le n = L at h8 ⊢
    have hrow0 : bytesR b ++ [[T.lit (.int .u8 (IntKind.u8.wrap (((bytesR L).length : Nat) : Int)))]] = bytesR (b ++ UInt8.ofNat L.length :: (L.drop L.length).reverse) := by
      rw [bytesR_len, toU8n, List.drop_length, ← bytesR_append]; rfl
    refine loop_intro (fun y : Fin (L.length + 1) =>
      ⟨[(0, .sl (some 0) 1 (bytesR (b ++ UInt8.ofNat L.length :: (L.drop y.1).reverse))), (5, .sl (some 1) 1 (bytesR L)), (6, i64 ((y.1 : Int) - 1))], [(0, .tok 1 (b.length + 1 + (L.length - y.1))), (1, .tok 1 L.length)], 37, 2, [2000001]⟩) (fun y => y.1) ⟨L.length, by omega⟩ ?_ ?_
    · refine Wk.intro [] rfl (fun p hp => by cases hp) ⟨.same (congrArg (T.sl (some 0) 1) hrow0) (by exact rfl), .same rfl (by exact rfl), .same (congrArg i64 ?_) trivial, trivial⟩
        ⟨⟨rfl, .inl ⟨?_, trivial⟩⟩, ⟨rfl, .inl ⟨rfl, trivial⟩⟩, trivial⟩
      · rw [bytesR_len, wrap_i64 _ (by omega) (by omega)]
      · show some (Blk.tok 1 ((bytesR b).length + 1)) = _
        rw [bytesR_len, Nat.sub_self]
    rintro ⟨k, hk⟩
    dsimp only
    conv => whnf
    refine br_intro (fun h => ?_) (fun h => ?_) <;> (rw [h]; conv => whnf)
    · obtain ⟨j, rfl⟩ : ∃ j, k = j + 1 := ⟨k - 1, by have := of_decide_eq_true h; omega⟩
      have hj : j < L.length := by omega
      rw [show ((j + 1 : Nat) : Int) - 1 = (j : Int) by omega, Int.toNat_natCast]
      refine ⟨by omega, nthK_intro (bytes_get (List.getElem?_eq_getElem hj)) ?_⟩
      conv => whnf
      have hl : (b ++ UInt8.ofNat L.length :: (L.drop (j + 1)).reverse).length = b.length + 1 + (L.length - (j + 1)) := by simp; omega
      refine ⟨by rw [bytesR_len, hl], by rw [nb, bytesR_len, hl]; show (b.length + 1 + (L.length - (j + 1)) + 1) * 1 ≤ _; omega, by rw [bytesR_len, hl]; show b.length + 1 + (L.length - (j + 1)) + 1 ≤ _; omega, ?_⟩
      conv => whnf
      have hrows : bytesR (b ++ UInt8.ofNat L.length :: (L.drop (j + 1)).reverse) ++ [[T.lit (.int .u8 ((L[j]).toNat : Int))]] = bytesR (b ++ UInt8.ofNat L.length :: (L.drop j).reverse) := by
        rw [List.drop_eq_getElem_cons hj, List.reverse_cons, ← List.cons_append, ← List.append_assoc, ← bytesR_append _ [L[j]]]; rfl
      refine Nx.intro ⟨j, by omega⟩ (by dsimp only; omega) ?_
      refine Wk.intro [] rfl (fun p hp => by cases hp) ⟨.same (congrArg (T.sl (some 0) 1) hrows) (by exact rfl), .same rfl (by exact rfl), .same (congrArg i64 ?_) trivial, trivial⟩
        ⟨⟨rfl, .inl ⟨?_, trivial⟩⟩, ⟨rfl, .inl ⟨rfl, trivial⟩⟩, trivial⟩
      · rw [wrap_i64 _ (by omega) (by omega)]
      · show some (Blk.tok 1 ((bytesR _).length + 1)) = _
        rw [bytesR_len, hl, show b.length + 1 + (L.length - (j + 1)) + 1 = b.length + 1 + (L.length - j) by omega]
    · obtain rfl : k = 0 := by have := of_decide_eq_false h; omega
      rw [List.drop_zero]
      refine ⟨[(0, 0)], ⟨rfl, rfl, rfl⟩, .inl rfl, ?_⟩
      have hl : (b ++ UInt8.ofNat L.length :: L.reverse).length = b.length + 1 + (L.length - 0) := by simp; omega
      refine ⟨⟨0, _, rfl, rfl, rfl, ?_, trivial⟩, trivial⟩
      show Blk.tok 1 _ = Blk.tok 1 _
      rw [hl]
end Go.AW.Wir
