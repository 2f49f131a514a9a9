import Derived.Test.YtmobiphgmdigjaaMaiI1
import Derived.Test.YtmobiphgmdigjaaWirP1
import Derived.Test.YtmobiphgmdigjaaAw27
/- The wire: encoding, walked. -/
set_option linter.unusedVariables false
set_option linter.unusedSimpArgs false
namespace Go.AW.Wir
open Go Go.AW Go.Proofs
set_option maxRecDepth 10000
set_option pp.maxSteps 60

theorem shr8 (n : Nat) : (n : Int).fdiv (2 ^ min (Int.toNat 8) IntKind.u64.bits) = ((n / 256 : Nat) : Int) := by
  have e : (2 : Int) ^ min (Int.toNat 8) IntKind.u64.bits = ((256 : Nat) : Int) := by decide
  rw [e, ← Int.ofNat_fdiv]
theorem toU8n (n : Nat) : IntKind.u8.wrap (n : Int) = (((UInt8.ofNat n).toNat : Nat) : Int) := by
  rw [wrap_mod .u8 rfl]
  rfl
abbrev tkM (b : List UInt8) : Mem := [(0, .tok 1 b.length)]
theorem cnt_law (b : List UInt8) (hb : b.length ≤ 1000000000) (n : Nat) (hn : n < 18446744073709551616) : FCm Try.prog 59 [.sl (some 0) 1 (bytesR b), u64 n] (tkM b) 1 (.sl (some 0) 1 (bytesR (b ++ cntB n))) (tkM (b ++ cntB n)) := by
  refine FCm_of_awp (fn := Try.f59) (c := bodyC Try.f59) Try.func59 rfl (of_decide_eq_true rfl) [2000001] rfl ?_
  conv => whnf
  refine loop_intro (fun y : { p : List UInt8 × Nat // p.1.length ≤ 8 ∧ p.2 < 256 ^ (8 - p.1.length) ∧ p.1 ++ leF (8 - p.1.length) p.2 = le n } =>
    ⟨[(0, .sl (some 0) 1 (bytesR b)), (1, u64 y.1.2), (5, .sl (some 1) 1 (bytesR y.1.1))], [(0, .tok 1 b.length), (1, .tok 1 y.1.1.length)], 37, 2, [2000001]⟩) (fun y => y.1.2) ⟨([], n), Nat.zero_le _, hn, rfl⟩ ?_ ?_
  · exact Wk.intro [(1, 1)] rfl (fun p hp => by obtain rfl := List.mem_singleton.1 hp; exact ⟨Nat.le_of_ble_eq_true rfl, Nat.le_of_ble_eq_true rfl, fun q hq _ => List.mem_singleton.1 hq⟩)
      ⟨.same rfl (by exact rfl), .same rfl trivial, .inr (.inr (.inr (.inl ⟨rfl, 1, 1, rfl, by simp⟩))), trivial⟩ ⟨⟨rfl, .inl ⟨rfl, trivial⟩⟩, ⟨rfl, .inr (.inl ⟨1, by simp, rfl⟩)⟩, trivial⟩
  rintro ⟨⟨l, m⟩, g1, g2, g3⟩
  dsimp only at g1 g2 g3 ⊢
  conv => whnf
  refine br_intro (fun h => ?_) (fun h => ?_) <;> (rw [h]; conv => whnf)
  · have hm : m ≠ 0 := by have := of_decide_eq_true h; omega
    obtain ⟨f, hf⟩ : ∃ f, 8 - l.length = f + 1 := by
      cases e : 8 - l.length with
      | zero => rw [e] at g2; exact absurd g2 (by omega)
      | succ f => exact ⟨f, rfl⟩
    have nb : (Try.prog.types[5]).bytes = 1 := rfl
    refine ⟨bytesR_len _, by rw [nb, bytesR_len]; show (l.length + 1) * 1 ≤ _; omega, by rw [bytesR_len]; show l.length + 1 ≤ _; omega, ?_⟩
    conv => whnf
    refine ⟨by decide, ?_⟩
    conv => whnf
    have hlen : (l ++ [UInt8.ofNat m]).length = l.length + 1 := by simp
    have hrows : bytesR l ++ [[T.lit (.int .u8 (IntKind.u8.wrap (m : Int)))]] = bytesR (l ++ [UInt8.ofNat m]) := by
      rw [toU8n, ← bytesR_append]; rfl
    refine Nx.intro ⟨(l ++ [UInt8.ofNat m], m / 256), by dsimp only; omega, ?_, ?_⟩ (by dsimp only; omega) ?_
    · dsimp only
      rw [hlen, show 8 - (l.length + 1) = f by omega]
      rw [hf, Nat.pow_succ, Nat.mul_comm] at g2
      exact Nat.div_lt_of_lt_mul g2
    · dsimp only
      rw [hlen, show 8 - (l.length + 1) = f by omega, List.append_assoc]
      rw [hf] at g3
      refine Eq.trans ?_ g3
      show l ++ (UInt8.ofNat m :: leF f (m / 256)) = l ++ (if m = 0 then [] else UInt8.ofNat m :: leF f (m / 256))
      rw [if_neg hm]
    · refine Wk.intro [] rfl (fun p hp => by cases hp) ⟨.same rfl (by exact rfl), .same (congrArg (fun z => T.lit (.int .u64 z)) (shr8 m)) trivial, .same (congrArg (T.sl (some 1) 1) hrows) (by exact rfl), trivial⟩
        ⟨⟨rfl, .inl ⟨rfl, trivial⟩⟩, ⟨rfl, .inl ⟨?_, trivial⟩⟩, trivial⟩
      show some (Blk.tok 1 ((bytesR l).length + 1)) = _
      rw [bytesR_len, hlen]
  · obtain rfl : m = 0 := by have := of_decide_eq_false h; omega
    obtain rfl : l = le n := by rw [← g3]; cases 8 - l.length <;> simp [leF]
    have nb : (Try.prog.types[5]).bytes = 1 := rfl
    refine ⟨bytesR_len _, by rw [nb, bytesR_len]; show (b.length + 1) * 1 ≤ _; omega, by rw [bytesR_len]; show b.length + 1 ≤ _; omega, ?_⟩
    conv => whnf
    have h8 := le_len n
    unfold cntB
    generalize le n = L at h8 ⊢
    have hrow0 : bytesR b ++ [[T.lit (.int .u8 (IntKind.u8.wrap (((bytesR L).length : Nat) : Int)))]] = bytesR (b ++ UInt8.ofNat L.length :: (L.drop L.length).reverse) := by
      rw [bytesR_len, toU8n, List.drop_length, ← bytesR_append]; rfl
    refine loop_intro (fun y : Fin (L.length + 1) =>
      ⟨[(0, .sl (some 0) 1 (bytesR (b ++ UInt8.ofNat L.length :: (L.drop y.1).reverse))), (5, .sl (some 1) 1 (bytesR L)), (6, i64 ((y.1 : Int) - 1))], [(0, .tok 1 (b.length + 1 + (L.length - y.1))), (1, .tok 1 L.length)], 37, 2, [2000001]⟩) (fun y => y.1) ⟨L.length, by omega⟩ ?_ ?_
    · refine Wk.intro [] rfl (fun p hp => by cases hp) ⟨.same (congrArg (T.sl (some 0) 1) hrow0) (by exact rfl), .same rfl (by exact rfl), .same (congrArg i64 ?_) trivial, trivial⟩
        ⟨⟨rfl, .inl ⟨?_, trivial⟩⟩, ⟨rfl, .inl ⟨rfl, trivial⟩⟩, trivial⟩
      · rw [bytesR_len, wrap_i64 _ (by omega) (by omega)]
      · show some (Blk.tok 1 ((bytesR b).length + 1)) = _
        rw [bytesR_len, Nat.sub_self]
    rintro ⟨k, hk⟩
    dsimp only
    conv => whnf
    refine br_intro (fun h => ?_) (fun h => ?_) <;> (rw [h]; conv => whnf)
    · obtain ⟨j, rfl⟩ : ∃ j, k = j + 1 := ⟨k - 1, by have := of_decide_eq_true h; omega⟩
      have hj : j < L.length := by omega
      rw [show ((j + 1 : Nat) : Int) - 1 = (j : Int) by omega, Int.toNat_natCast]
      refine ⟨by omega, nthK_intro (bytes_get (List.getElem?_eq_getElem hj)) ?_⟩
      conv => whnf
      have hl : (b ++ UInt8.ofNat L.length :: (L.drop (j + 1)).reverse).length = b.length + 1 + (L.length - (j + 1)) := by simp; omega
      refine ⟨by rw [bytesR_len, hl], by rw [nb, bytesR_len, hl]; show (b.length + 1 + (L.length - (j + 1)) + 1) * 1 ≤ _; omega, by rw [bytesR_len, hl]; show b.length + 1 + (L.length - (j + 1)) + 1 ≤ _; omega, ?_⟩
      conv => whnf
      have hrows : bytesR (b ++ UInt8.ofNat L.length :: (L.drop (j + 1)).reverse) ++ [[T.lit (.int .u8 ((L[j]).toNat : Int))]] = bytesR (b ++ UInt8.ofNat L.length :: (L.drop j).reverse) := by
        rw [List.drop_eq_getElem_cons hj, List.reverse_cons, ← List.cons_append, ← List.append_assoc, ← bytesR_append _ [L[j]]]; rfl
      refine Nx.intro ⟨j, by omega⟩ (by dsimp only; omega) ?_
      refine Wk.intro [] rfl (fun p hp => by cases hp) ⟨.same (congrArg (T.sl (some 0) 1) hrows) (by exact rfl), .same rfl (by exact rfl), .same (congrArg i64 ?_) trivial, trivial⟩
        ⟨⟨rfl, .inl ⟨?_, trivial⟩⟩, ⟨rfl, .inl ⟨rfl, trivial⟩⟩, trivial⟩
      · rw [wrap_i64 _ (by omega) (by omega)]
      · show some (Blk.tok 1 ((bytesR _).length + 1)) = _
        rw [bytesR_len, hl, show b.length + 1 + (L.length - (j + 1)) + 1 = b.length + 1 + (L.length - j) by omega]
    · obtain rfl : k = 0 := by have := of_decide_eq_false h; omega
      rw [List.drop_zero]
      refine ⟨[(0, 0)], ⟨rfl, rfl, rfl⟩, .inl rfl, ?_⟩
      have hl : (b ++ UInt8.ofNat L.length :: L.reverse).length = b.length + 1 + (L.length - 0) := by simp; omega
      refine ⟨⟨0, _, rfl, rfl, rfl, ?_, trivial⟩, trivial⟩
      show Blk.tok 1 _ = Blk.tok 1 _
      rw [hl]
end Go.AW.Wir

/- The wire: values put, walked. -/
set_option linter.unusedVariables false
set_option linter.unusedSimpArgs false
namespace Go.AW.Wir
open Go Go.AW Go.Proofs
set_option maxRecDepth 10000
set_option pp.maxSteps 60

theorem zig_word (n : Int) (h1 : -9223372036854775808 ≤ n) (h2 : n ≤ 9223372036854775807) :
    bitsI .xor .u64 (IntKind.u64.wrap (IntKind.u64.wrap n * 2 ^ min (Int.toNat 1) IntKind.u64.bits)) (IntKind.u64.wrap (n.fdiv (2 ^ min (Int.toNat 63) IntKind.i64.bits))) = ((zig n : Nat) : Int) := by
  have e1 : (2 : Int) ^ min (Int.toNat 1) IntKind.u64.bits = 2 := by decide
  have e63 : (2 : Int) ^ min (Int.toNat 63) IntKind.i64.bits = 9223372036854775808 := by decide
  have hw : ∀ z : Int, IntKind.u64.wrap z = z % 18446744073709551616 := by
    intro z
    have e2 : (2 : Int) ^ IntKind.u64.bits = 18446744073709551616 := by decide
    simp only [IntKind.wrap, e2, show IntKind.u64.signed = false from rfl, Bool.false_and]
    rfl
  have hbits : ∀ x y : Int, bitsI .xor .u64 x y = IntKind.u64.wrap ((BitVec.ofInt 64 x ^^^ BitVec.ofInt 64 y : BitVec 64).toNat : Int) := fun _ _ => rfl
  rw [e1, e63, hbits]
  unfold zig
  by_cases h0 : 0 ≤ n
  · rw [if_pos h0]
    have hd : n.fdiv 9223372036854775808 = 0 := by rw [Int.fdiv_eq_ediv_of_nonneg _ (by decide)]; omega
    rw [hd, show IntKind.u64.wrap 0 = 0 from by decide, show BitVec.ofInt 64 0 = 0#64 from by decide, BitVec.xor_zero, BitVec.toNat_ofInt, hw, hw, hw]
    omega
  · rw [if_neg h0]
    have hd : n.fdiv 9223372036854775808 = -1 := by rw [Int.fdiv_eq_ediv_of_nonneg _ (by decide)]; omega
    rw [hd, show BitVec.ofInt 64 (IntKind.u64.wrap (-1)) = BitVec.allOnes 64 from by decide, BitVec.xor_allOnes, BitVec.toNat_not, BitVec.toNat_ofInt, hw, hw, hw]
    omega

mutual
/-- A value, as it is held. -/
def vT : Val → T
  | .num n => .lit (.iface 2 (.int .i64 n))
  | .txt s => .lit (.iface 9 (.string ⟨s.toArray⟩))
  | .lst l => .ifc 101 (.sl none 1 (vR l))
  | .bad => .lit (flt 4)
def vR : List Val → List (List T)
  | [] => []
  | v :: r => [vT v] :: vR r
end
theorem vR_map : ∀ l : List Val, vR l = l.map fun v => [vT v]
  | [] => rfl
  | v :: r => by rw [vR, vR_map r, List.map_cons]
theorem vR_len (l : List Val) : (vR l).length = l.length := by rw [vR_map, List.length_map]
theorem vR_get {l : List Val} {j : Nat} {v : Val} (h : l[j]? = some v) : (vR l)[j]? = some [vT v] := by rw [vR_map, List.getElem?_map, h]; rfl

def PutOk (v : Val) : Prop := ∀ (acc out : List UInt8), acc.length + szV v ≤ 1000000000 → inV v → enV v = some out →
  FCm Try.prog 42 [.sl (some 0) 1 (bytesR acc), vT v] (tkM acc) 1 (.sl (some 0) 1 (bytesR (acc ++ out))) (tkM (acc ++ out))
def PutNo (v : Val) : Prop := ∀ (acc : List UInt8), acc.length + szV v ≤ 1000000000 → inV v → enV v = none →
  FCx Try.prog 42 [.sl (some 0) 1 (bytesR acc), vT v] (tkM acc) 1 (flt 4)
abbrev RLP : List Nat := [2000001, 1000000 + 59, 1000000 + 42, 3000000 + 42]

theorem tk_in {m : Mem} {j : Nat} {b : List UInt8} (h : m.get j = some (.tok 1 b.length)) : memIn (asIn [j] 0) m (tkM b) :=
  ⟨⟨rfl, h, trivial⟩, trivial⟩
theorem tk_out (j id : Nat) (b : List UInt8) : memOut (asIn ([j] ++ [id]) 0) (tkM b) [(j, .tok 1 b.length)] :=
  ⟨⟨rfl, rfl, rfl, trivial⟩, trivial⟩

theorem vT_form : ∀ v : Val, (∃ a b, vT v = .lit (.iface a b)) ∨ ∃ a b, vT v = .ifc a (.sl none 1 b)
  | .num n => .inl ⟨_, _, by rw [vT]⟩
  | .txt s => .inl ⟨_, _, by rw [vT]⟩
  | .lst l => .inr ⟨_, _, by rw [vT]⟩
  | .bad => .inl ⟨_, _, by rw [vT]; rfl⟩
theorem app1 (acc : List UInt8) (c : UInt8) : bytesR (acc ++ [c]) = bytesR acc ++ [[.lit (.int .u8 c.toNat)]] := (bytesR_append acc [c]).symm
theorem tok1 (acc : List UInt8) (c : UInt8) : (acc ++ [c]).length = (bytesR acc).length + 1 := by rw [bytesR_len]; simp
theorem arg2 {a b a' b' : T} (h : a = a') (h2 : b = b') : [a, b] = [a', b'] := by rw [h, h2]
theorem put_num (n : Int) : PutOk (.num n) := by
  intro acc out hsz hin h
  rw [enV] at h
  cases h
  rw [inV] at hin
  rw [szV] at hsz
  rw [vT]
  refine FCm_of_awp (fn := Try.f42) (c := bodyC Try.f42) Try.func42 rfl (of_decide_eq_true rfl) RLP rfl ?_
  conv => whnf
  have nb : (Try.prog.types[5]).bytes = 1 := rfl
  refine ⟨bytesR_len _, by rw [nb, bytesR_len]; show (acc.length + 1) * 1 ≤ _; omega, by rw [bytesR_len]; show acc.length + 1 ≤ _; omega, ?_⟩
  conv => whnf
  refine ⟨by decide, ?_⟩
  conv => whnf
  refine ⟨by decide, ?_⟩
  conv => whnf
  rw [zig_word n hin.1 hin.2]
  have hz : zig n < 18446744073709551616 := by unfold zig; split <;> omega
  have hl1 : (acc ++ [1]).length = acc.length + 1 := by simp
  have hout : acc ++ [1] ++ cntB (zig n) = acc ++ 1 :: cntB (zig n) := by simp
  refine ⟨[0], _, _, _, _, tkM (acc ++ [1] ++ cntB (zig n)), _, cnt_law (acc ++ [1]) (by omega) (zig n) hz, ⟨rfl, ⟨rfl, trivial⟩, arg2 (congrArg (T.sl (some 0) 1) (app1 acc 1)) rfl, rfl, tk_in (congrArg (fun z => some (Blk.tok 1 z)) (tok1 acc 1).symm), rfl, rfl, tk_out 0 _ _⟩, ?_⟩
  conv => whnf
  refine ⟨[(0, 0)], ⟨rfl, rfl, rfl⟩, .inl (congrArg (fun z => T.sl (some 0) 1 (bytesR z)) hout), ⟨⟨0, _, rfl, rfl, rfl, ?_, trivial⟩, trivial⟩⟩
  show Blk.tok 1 _ = Blk.tok 1 _
  rw [hout]
theorem put_txt (s : List UInt8) : PutOk (.txt s) := by
  intro acc out hsz hin h
  rw [enV] at h
  cases h
  rw [szV] at hsz
  rw [vT]
  refine FCm_of_awp (fn := Try.f42) (c := bodyC Try.f42) Try.func42 rfl (of_decide_eq_true rfl) RLP rfl ?_
  conv => whnf
  have nb : (Try.prog.types[5]).bytes = 1 := rfl
  refine ⟨bytesR_len _, by rw [nb, bytesR_len]; show (acc.length + 1) * 1 ≤ _; omega, by rw [bytesR_len]; show acc.length + 1 ≤ _; omega, ?_⟩
  conv => whnf
  have hl1 : (acc ++ [2]).length = acc.length + 1 := by simp
  have hc9 := cntB_len s.length
  refine ⟨[0], _, _, _, _, tkM (acc ++ [2] ++ cntB s.length), _, cnt_law (acc ++ [2]) (by omega) s.length (by omega), ⟨rfl, ⟨rfl, trivial⟩, arg2 (congrArg (T.sl (some 0) 1) (app1 acc 2)) ?_, rfl, tk_in (congrArg (fun z => some (Blk.tok 1 z)) (tok1 acc 2).symm), rfl, rfl, tk_out 0 _ _⟩, ?_⟩
  · show T.lit (.int .u64 (s.length : Int)) = T.lit (.int .u64 (IntKind.u64.wrap (((⟨s.toArray⟩ : ByteArray).size : Nat) : Int)))
    have e : (⟨s.toArray⟩ : ByteArray).size = s.length := List.size_toArray ..
    rw [e, wrap_mod .u64 rfl, Nat.mod_eq_of_lt (by show _ < 18446744073709551616; omega)]
  conv => whnf
  have hl : (acc ++ [2] ++ cntB s.length).length ≤ acc.length + 10 := by rw [List.length_append]; omega
  have hd : ({ data := s.toArray } : ByteArray).data.toList = s := rfl
  rw [hd]
  refine ⟨bytesR_len _, by rw [nb, bytesR_len, bytesR_len]; show (_ + s.length) * 1 ≤ _; omega, by rw [bytesR_len, bytesR_len]; show _ + s.length ≤ _; omega, ?_⟩
  conv => whnf
  have hout : acc ++ [2] ++ cntB s.length ++ s = acc ++ (2 :: cntB s.length ++ s) := by simp
  refine ⟨[(0, 0)], ⟨rfl, rfl, rfl⟩, .inl ?_, ⟨⟨0, _, rfl, rfl, rfl, ?_, trivial⟩, trivial⟩⟩
  · show T.sl (some 0) 1 (bytesR _ ++ bytesR s) = T.sl (some 0) 1 _
    rw [bytesR_append, hout]
  · show Blk.tok 1 _ = Blk.tok 1 _
    rw [bytesR_len, bytesR_len, ← List.length_append, hout]
theorem put_bad : PutNo .bad := by
  intro acc hsz hin h
  rw [vT]
  refine FCx_of_awp (fn := Try.f42) (c := bodyC Try.f42) Try.func42 rfl (of_decide_eq_true rfl) RLP rfl ?_
  conv => whnf
  all_goals rfl
theorem put_lst (l : List Val) (ih : ∀ v ∈ l, PutOk v ∧ PutNo v) : PutOk (.lst l) := by
  intro acc out hsz hin h
  rw [szV] at hsz
  rw [inV] at hin
  rw [vT]
  refine FCm_of_awp (fn := Try.f42) (c := bodyC Try.f42) Try.func42 rfl (of_decide_eq_true rfl) RLP rfl ?_
  conv => whnf
  have nb : (Try.prog.types[5]).bytes = 1 := rfl
  refine ⟨bytesR_len _, by rw [nb, bytesR_len]; show (acc.length + 1) * 1 ≤ _; omega, by rw [bytesR_len]; show acc.length + 1 ≤ _; omega, ?_⟩
  conv => whnf
  have hl1 : (acc ++ [3]).length = acc.length + 1 := by simp
  have hc9 := cntB_len l.length
  have hll := szL_len l
  refine ⟨[0], _, _, _, _, tkM (acc ++ [3] ++ cntB l.length), _, cnt_law (acc ++ [3]) (by omega) l.length ?_, ⟨rfl, ⟨rfl, trivial⟩, arg2 (congrArg (T.sl (some 0) 1) (app1 acc 3)) ?_, rfl, tk_in (congrArg (fun z => some (Blk.tok 1 z)) (tok1 acc 3).symm), rfl, rfl, tk_out 0 _ _⟩, ?_⟩
  · omega
  · show T.lit (.int .u64 (l.length : Int)) = T.lit (.int .u64 (IntKind.u64.wrap (((vR l).length : Nat) : Int)))
    rw [vR_len, wrap_mod .u64 rfl, Nat.mod_eq_of_lt (by show _ < 18446744073709551616; omega)]
  conv => whnf
  rw [enV] at h
  have hout : acc ++ [3] ++ cntB l.length = acc ++ 3 :: cntB l.length := by simp
  have hbl : (acc ++ [3] ++ cntB l.length).length ≤ acc.length + 10 := by rw [List.length_append]; omega
  generalize hbase : acc ++ [3] ++ cntB l.length = base at hout hbl ⊢
  refine loop_intro (fun y : { p : Nat × List UInt8 // p.1 ≤ l.length ∧ base.length + p.2.length + szL (l.drop p.1) ≤ 1000000000 ∧ enL l = (enL (l.drop p.1)).map (p.2 ++ ·) } =>
    ⟨[(0, .sl (some 0) 1 (bytesR (base ++ y.1.2))), (60, .sl none 1 (vR l)), (61, i64 (l.length : Nat)), (62, i64 (y.1.1 : Nat))], tkM (base ++ y.1.2), 71, 1, RLP⟩) (fun y => l.length - y.1.1) ⟨(0, []), Nat.zero_le _, by simp only [List.length_nil, List.drop_zero]; omega, by simp⟩ ?_ ?_
  · dsimp only
    rw [List.append_nil]
    exact Wk.intro [] rfl (fun p hp => by cases hp) ⟨.same rfl (by exact rfl), .same rfl trivial, .same (congrArg i64 (by rw [vR_len])) trivial, .same rfl trivial, trivial⟩ ⟨⟨rfl, .inl ⟨rfl, trivial⟩⟩, trivial⟩
  rintro ⟨⟨j, pre⟩, g1, g2, g3⟩
  dsimp only at g1 g2 g3 ⊢
  conv => whnf
  refine br_intro (fun h1 => ?_) (fun h1 => ?_) <;> (rw [h1]; conv => whnf)
  · have hj : j < l.length := by have := of_decide_eq_true h1; omega
    refine ⟨by omega, nthK_intro (vR_get (List.getElem?_eq_getElem hj)) ?_⟩
    conv => whnf
    have hdr : l.drop j = l[j] :: l.drop (j + 1) := List.drop_eq_getElem_cons hj
    rw [hdr] at g2 g3
    rw [szL] at g2
    have hmem : l[j] ∈ l := List.getElem_mem hj
    generalize hlj : l[j] = v at g2 g3 hmem ⊢
    cases hv : enV v with
    | none => rw [enL_stop g3 hv] at h; cases h
    | some b =>
      have hbs := enV_len hv
      have hc := (ih v hmem).1 (base ++ pre) b (by rw [List.length_append]; omega) (inL_mem hin hmem) hv
      rcases vT_form v with ⟨ea, eb, e⟩ | ⟨ea, eb, e⟩ <;> rw [e] at hc ⊢ <;> (conv => whnf) <;>
        refine .inl ⟨[0], _, _, _, _, tkM (base ++ pre ++ b), _, hc, ⟨rfl, ⟨rfl, trivial⟩, rfl, rfl, tk_in rfl, rfl, rfl, tk_out 0 _ _⟩, ?_⟩ <;> (conv => whnf) <;>
        (refine Nx.intro ⟨(j + 1, pre ++ b), by dsimp only; omega, by dsimp only; rw [List.length_append]; omega, enL_step g3 hv⟩ (by dsimp only; omega) ?_) <;>
        dsimp only <;> rw [← List.append_assoc] <;>
        (refine Wk.intro [] rfl (fun p hp => by cases hp) ⟨.same rfl (by exact rfl), .same rfl trivial, .same rfl trivial, .same (congrArg i64 ?_) trivial, trivial⟩ ⟨⟨rfl, .inl ⟨rfl, trivial⟩⟩, trivial⟩) <;>
        (rw [wrap_i64 _ (by omega) (by omega)]; rfl)
  · obtain rfl : j = l.length := by have := of_decide_eq_false h1; omega
    rw [List.drop_length, enL] at g3
    rw [g3] at h
    cases h
    have ho : base ++ pre = acc ++ (3 :: cntB l.length ++ (pre ++ [])) := by rw [hout]; simp
    rw [← ho]
    exact ⟨[(0, 0)], ⟨rfl, rfl, rfl⟩, .inl rfl, ⟨⟨0, _, rfl, rfl, rfl, rfl, trivial⟩, trivial⟩⟩
theorem put_nol (l : List Val) (ih : ∀ v ∈ l, PutOk v ∧ PutNo v) : PutNo (.lst l) := by
  intro acc hsz hin h
  rw [szV] at hsz
  rw [inV] at hin
  rw [vT]
  refine FCx_of_awp (fn := Try.f42) (c := bodyC Try.f42) Try.func42 rfl (of_decide_eq_true rfl) RLP rfl ?_
  conv => whnf
  have nb : (Try.prog.types[5]).bytes = 1 := rfl
  refine ⟨bytesR_len _, by rw [nb, bytesR_len]; show (acc.length + 1) * 1 ≤ _; omega, by rw [bytesR_len]; show acc.length + 1 ≤ _; omega, ?_⟩
  conv => whnf
  have hl1 : (acc ++ [3]).length = acc.length + 1 := by simp
  have hc9 := cntB_len l.length
  have hll := szL_len l
  refine ⟨[0], _, _, _, _, tkM (acc ++ [3] ++ cntB l.length), _, cnt_law (acc ++ [3]) (by omega) l.length ?_, ⟨rfl, ⟨rfl, trivial⟩, arg2 (congrArg (T.sl (some 0) 1) (app1 acc 3)) ?_, rfl, tk_in (congrArg (fun z => some (Blk.tok 1 z)) (tok1 acc 3).symm), rfl, rfl, tk_out 0 _ _⟩, ?_⟩
  · omega
  · show T.lit (.int .u64 (l.length : Int)) = T.lit (.int .u64 (IntKind.u64.wrap (((vR l).length : Nat) : Int)))
    rw [vR_len, wrap_mod .u64 rfl, Nat.mod_eq_of_lt (by show _ < 18446744073709551616; omega)]
  conv => whnf
  rw [enV] at h
  have hout : acc ++ [3] ++ cntB l.length = acc ++ 3 :: cntB l.length := by simp
  have hbl : (acc ++ [3] ++ cntB l.length).length ≤ acc.length + 10 := by rw [List.length_append]; omega
  generalize hbase : acc ++ [3] ++ cntB l.length = base at hout hbl ⊢
  refine loop_intro (fun y : { p : Nat × List UInt8 // p.1 ≤ l.length ∧ base.length + p.2.length + szL (l.drop p.1) ≤ 1000000000 ∧ enL l = (enL (l.drop p.1)).map (p.2 ++ ·) } =>
    ⟨[(0, .sl (some 0) 1 (bytesR (base ++ y.1.2))), (60, .sl none 1 (vR l)), (61, i64 (l.length : Nat)), (62, i64 (y.1.1 : Nat))], tkM (base ++ y.1.2), 71, 1, RLP⟩) (fun y => l.length - y.1.1) ⟨(0, []), Nat.zero_le _, by simp only [List.length_nil, List.drop_zero]; omega, by simp⟩ ?_ ?_
  · dsimp only
    rw [List.append_nil]
    exact Wk.intro [] rfl (fun p hp => by cases hp) ⟨.same rfl (by exact rfl), .same rfl trivial, .same (congrArg i64 (by rw [vR_len])) trivial, .same rfl trivial, trivial⟩ ⟨⟨rfl, .inl ⟨rfl, trivial⟩⟩, trivial⟩
  rintro ⟨⟨j, pre⟩, g1, g2, g3⟩
  dsimp only at g1 g2 g3 ⊢
  conv => whnf
  refine br_intro (fun h1 => ?_) (fun h1 => ?_) <;> (rw [h1]; conv => whnf)
  · have hj : j < l.length := by have := of_decide_eq_true h1; omega
    refine ⟨by omega, nthK_intro (vR_get (List.getElem?_eq_getElem hj)) ?_⟩
    conv => whnf
    have hdr : l.drop j = l[j] :: l.drop (j + 1) := List.drop_eq_getElem_cons hj
    rw [hdr] at g2 g3
    rw [szL] at g2
    have hmem : l[j] ∈ l := List.getElem_mem hj
    generalize hlj : l[j] = v at g2 g3 hmem ⊢
    cases hv : enV v with
    | none =>
      have hc := (ih v hmem).2 (base ++ pre) (by rw [List.length_append]; omega) (inL_mem hin hmem) hv
      rcases vT_form v with ⟨ea, eb, e⟩ | ⟨ea, eb, e⟩ <;> rw [e] at hc ⊢ <;> (conv => whnf) <;>
        refine .inr ⟨[0], _, _, _, hc, ⟨rfl, ⟨rfl, trivial⟩, rfl, rfl, tk_in rfl⟩, ?_⟩ <;> (conv => whnf)
      all_goals rfl
    | some b =>
      have hbs := enV_len hv
      have hc := (ih v hmem).1 (base ++ pre) b (by rw [List.length_append]; omega) (inL_mem hin hmem) hv
      rcases vT_form v with ⟨ea, eb, e⟩ | ⟨ea, eb, e⟩ <;> rw [e] at hc ⊢ <;> (conv => whnf) <;>
        refine .inl ⟨[0], _, _, _, _, tkM (base ++ pre ++ b), _, hc, ⟨rfl, ⟨rfl, trivial⟩, rfl, rfl, tk_in rfl, rfl, rfl, tk_out 0 _ _⟩, ?_⟩ <;> (conv => whnf) <;>
        (refine Nx.intro ⟨(j + 1, pre ++ b), by dsimp only; omega, by dsimp only; rw [List.length_append]; omega, enL_step g3 hv⟩ (by dsimp only; omega) ?_) <;>
        dsimp only <;> rw [← List.append_assoc] <;>
        (refine Wk.intro [] rfl (fun p hp => by cases hp) ⟨.same rfl (by exact rfl), .same rfl trivial, .same rfl trivial, .same (congrArg i64 ?_) trivial, trivial⟩ ⟨⟨rfl, .inl ⟨rfl, trivial⟩⟩, trivial⟩) <;>
        (rw [wrap_i64 _ (by omega) (by omega)]; rfl)
  · obtain rfl : j = l.length := by have := of_decide_eq_false h1; omega
    rw [List.drop_length, enL] at g3
    rw [g3] at h
    cases h
theorem put_law : ∀ v : Val, PutOk v ∧ PutNo v
  | .num n => ⟨put_num n, fun acc _ _ h => by rw [enV] at h; cases h⟩
  | .txt s => ⟨put_txt s, fun acc _ _ h => by rw [enV] at h; cases h⟩
  | .bad => ⟨(fun acc out _ _ h => by rw [enV] at h; cases h), put_bad⟩
  | .lst l =>
    have ih : ∀ v ∈ l, PutOk v ∧ PutNo v := fun v hv => put_law v
    ⟨put_lst l ih, put_nol l ih⟩
termination_by v => SizeOf.sizeOf v
decreasing_by
  have := List.sizeOf_lt_of_mem hv
  simp only [Val.lst.sizeOf_spec]
  omega

/-- The first bytes, put behind none. -/
theorem put_ok0 (v : Val) (out : List UInt8) (hs : szV v ≤ 1000000000) (hin : inV v) (h : enV v = some out) :
    FCm Try.prog 42 [.lit (.slice none 0 0), vT v] [] 0 (.sl (some 0) 1 (bytesR out)) (tkM out) :=
  FCe.nil ((put_law v).1 [] out (by rw [List.length_nil]; omega) hin h)
theorem put_no0 (v : Val) (hs : szV v ≤ 1000000000) (hin : inV v) (h : enV v = none) :
    FCx Try.prog 42 [.lit (.slice none 0 0), vT v] [] 0 (flt 4) :=
  FCe.nil ((put_law v).2 [] (by rw [List.length_nil]; omega) hin h)
end Go.AW.Wir

/- The wire: what an item becomes, walked. -/
set_option linter.unusedVariables false
set_option linter.unusedSimpArgs false
namespace Go.AW.Wir
open Go Go.AW Go.Proofs
set_option maxRecDepth 10000
set_option pp.maxSteps 60

abbrev lfM (left : Int) : Mem := [(0, .own 1 [[i64 left]])]
theorem lf_in {m : Mem} {j : Nat} {left : Int} (h : m.get j = some (.own 1 [[i64 left]])) : memIn (asIn [j] 0) m (lfM left) :=
  ⟨⟨rfl, h, domB_flat _ (one_flat left)⟩, trivial⟩
theorem lf_out (j id : Nat) (left : Int) : memOut (asIn ([j] ++ [id]) 0) (lfM left) [(j, .own 1 [[i64 left]])] :=
  ⟨⟨rfl, rfl, renB_flat _ (one_flat left), domB_flat _ (one_flat left)⟩, trivial⟩
theorem lf_keep (left : Int) {m : Mem} (h : m.get 0 = some (.own 1 [[i64 left]])) : memKeep [(0, 0)] m (lfM left) :=
  ⟨⟨0, _, rfl, rfl, h, renB_flat _ (one_flat left), domB_flat _ (one_flat left)⟩, trivial⟩

abbrev RLO : List Nat := [2000001, 1000000 + 43, 3000000 + 43]
def OfOk (i : It) : Prop := ∀ deep left : Int, 1 ≤ deep → deep ≤ 13 → 0 ≤ left → left ≤ 4096 → inI i → okc i deep left →
  FCm Try.prog 43 [itT i, i64 deep, .ptr 0 0 0] (lfM left) 1 (vT (vI i)) (lfM (left - nI i))
def OfNo (i : It) : Prop := ∀ deep left : Int, 1 ≤ deep → deep ≤ 13 → 0 ≤ left → left ≤ 4096 → inI i → ¬ okc i deep left →
  FCx Try.prog 43 [itT i, i64 deep, .ptr 0 0 0] (lfM left) 1 (flt 3)

theorem nL_len : ∀ l : List It, l.length ≤ nL l
  | [] => Nat.zero_le _
  | i :: r => by
    rw [nL, List.length_cons]
    have := nI_pos i
    have := nL_len r
    omega
theorem inIs_mem : ∀ {l : List It} {i : It}, inIs l → i ∈ l → inI i
  | w :: r, i, h, hm => by
    rw [inIs] at h
    rcases List.mem_cons.1 hm with rfl | hm
    · exact h.1
    · exact inIs_mem h.2 hm
theorem empty_eq (l : List UInt8) : (ByteArray.toList ⟨l.toArray⟩ == ByteArray.toList ⟨#[]⟩) = l.isEmpty := by
  rw [ByteArray.toList_eq, ByteArray.toList_eq, Bool.eq_iff_iff, beq_iff_eq, List.isEmpty_iff]
theorem it_row (x : Nat) (k n : Int) (s : List UInt8) (l : List It) : blkLt x (.own 4 [[i64 k, i64 n, str s, .sl none 4 (itR l)]]) := by
  intro row hr c hc
  obtain rfl := List.mem_singleton.1 hr
  simp only [List.mem_cons, List.mem_nil_iff, or_false] at hc
  rcases hc with rfl | rfl | rfl | rfl <;> trivial
theorem lf_lt (x : Nat) (v : Int) : blkLt x (.own 1 [[i64 v]]) := by
  intro row hr c hc
  obtain rfl := List.mem_singleton.1 hr
  obtain rfl := List.mem_singleton.1 hc
  trivial
theorem take_nL {l : List It} {j : Nat} (hj : j < l.length) : nL (l.take (j + 1)) = nL (l.take j) + nI l[j] := by
  rw [List.take_add_one, List.getElem?_eq_getElem hj, nL_append]
  show _ + nL [l[j]] = _
  rw [nL, nL]; omega
theorem take_vR {l : List It} {j : Nat} (hj : j < l.length) : vR (vL (l.take (j + 1))) = vR (vL (l.take j)) ++ [[vT (vI l[j])]] := by
  rw [vR_map, vR_map, vL_map, vL_map, List.take_add_one, List.getElem?_eq_getElem hj, List.map_append, List.map_append]
  rfl
theorem vLt_len {l : List It} {j : Nat} (hj : j ≤ l.length) : (vR (vL (l.take j))).length = j := by
  rw [vR_len, vL_map, List.length_map, List.length_take, Nat.min_eq_left hj]
theorem tk_nL (l : List It) {j : Nat} (hj : j ≤ l.length) : j ≤ nL (l.take j) := by
  have := nL_len (l.take j)
  rw [List.length_take, Nat.min_eq_left hj] at this
  exact this
theorem bq {x y : Int} (h : x = y) : (x == y) = true := beq_iff_eq.2 h
theorem bn {x y : Int} (h : ¬ x = y) : (x == y) = false := beq_eq_false_iff_ne.2 h
theorem bl {l : List It} (h : l ≠ []) : (((itR l).length : Int) == 0) = false := bn (by rw [itR_len]; have := List.length_pos_iff.2 h; omega)
theorem be {s : List UInt8} (h : s ≠ []) : (ByteArray.toList ⟨s.toArray⟩ == ByteArray.toList ⟨#[]⟩) = false := by
  rw [empty_eq]; cases s with
  | nil => exact absurd rfl h
  | cons => rfl

theorem qq {x y : Int} (h : x = y) : (x != y) = false := by rw [bne, bq h]; rfl
theorem qn {x y : Int} (h : ¬ x = y) : (x != y) = true := by rw [bne, bn h]; rfl
theorem nbe {s : List UInt8} (h : s ≠ []) : (!(ByteArray.toList ⟨s.toArray⟩ == ByteArray.toList ⟨#[]⟩)) = true := by rw [be h]; rfl
theorem of_num (k n : Int) (s : List UInt8) (l : List It) (hA : k = 1 ∧ s = [] ∧ l = []) : OfOk (.mk k n s l) := by
  intro deep left hd1 hd hl0 hl1 hin ho
  rw [okc_mk] at ho
  obtain ⟨ho1, ho2, ho3, ho4⟩ := ho
  rw [vI, if_pos hA, vT, nI]
  obtain ⟨hk1, hs, hl⟩ := hA
  refine FCm_of_awp (fn := Try.f43) (c := bodyC Try.f43) Try.func43 rfl (of_decide_eq_true rfl) RLO rfl ?_
  rw [show itT (.mk k n s l) = .agg [i64 k, i64 n, str s, .sl none 4 (itR l)] from congrArg T.agg (itC_eq _)]
  conv => whnf
  rw [wrap_i64 (left - 1) (by omega) (by omega), show decide (left - 1 < 0) = false from decide_eq_false (by omega)]
  conv => whnf
  rw [show decide (deep > 12) = false from decide_eq_false (by omega)]
  conv => whnf
  rw [bn (show ¬ k = 2 by omega)]
  conv => whnf
  rw [bq hk1]
  conv => whnf
  rw [show (ByteArray.toList ⟨s.toArray⟩ == ByteArray.toList ⟨#[]⟩) = true by rw [empty_eq, hs]; rfl]
  conv => whnf
  rw [show (((itR l).length : Int) == 0) = true from bq (by rw [itR_len, hl]; rfl)]
  conv => whnf
  refine ⟨[(0, 0)], ⟨rfl, rfl, rfl⟩, .inl rfl, lf_keep _ ?_⟩
  show some (Blk.own 1 [[i64 (left - 1)]]) = _
  rw [hl, nL, show left - ((1 + 0 : Nat) : Int) = left - 1 by omega]
theorem of_txt (s : List UInt8) : OfOk (.mk 2 0 s []) := by
  intro deep left hd1 hd hl0 hl1 hin ho
  rw [okc_mk] at ho
  obtain ⟨ho1, ho2, ho3, ho4⟩ := ho
  rw [vI, if_neg (by rintro ⟨h, _⟩; cases h), if_pos ⟨rfl, rfl, rfl⟩, vT, nI, nL]
  refine FCm_of_awp (fn := Try.f43) (c := bodyC Try.f43) Try.func43 rfl (of_decide_eq_true rfl) RLO rfl ?_
  rw [show itT (.mk 2 0 s []) = .agg [i64 2, i64 0, str s, .sl none 4 []] from congrArg T.agg (itC_eq _)]
  conv => whnf
  rw [wrap_i64 (left - 1) (by omega) (by omega), show decide (left - 1 < 0) = false from decide_eq_false (by omega)]
  conv => whnf
  rw [show decide (deep > 12) = false from decide_eq_false (by omega)]
  conv => whnf
  rw [show decide (((ByteArray.size ⟨s.toArray⟩ : Nat) : Int) > 4096) = false from decide_eq_false (by
    have e : (⟨s.toArray⟩ : ByteArray).size = s.length := List.size_toArray ..
    rw [e]; omega)]
  conv => whnf
  exact ⟨[(0, 0)], ⟨rfl, rfl, rfl⟩, .inl rfl, lf_keep _ rfl⟩

theorem of_lst (k n : Int) (s : List UInt8) (l : List It) (ih : ∀ i ∈ l, OfOk i ∧ OfNo i) (hA : ¬ (k = 1 ∧ s = [] ∧ l = [])) (hB : ¬ (k = 2 ∧ n = 0 ∧ l = [])) (hC : k = 3 ∧ n = 0 ∧ s = []) : OfOk (.mk k n s l) := by
  intro deep left hd1 hd hl0 hl1 hin ho
  rw [okc_mk] at ho
  rw [inI] at hin
  obtain ⟨ho1, ho2, ho3, ho4⟩ := ho
  rw [vI, if_neg hA, if_neg hB, if_neg (fun h => h.elim (fun h => h hC.1) (fun h => h.elim (fun h => h hC.2.1) (fun h => h hC.2.2))), vT, nI]
  refine FCm_of_awp (fn := Try.f43) (c := bodyC Try.f43) Try.func43 rfl (of_decide_eq_true rfl) RLO rfl ?_
  rw [show itT (.mk k n s l) = .agg [i64 k, i64 n, str s, .sl none 4 (itR l)] from congrArg T.agg (itC_eq _)]
  conv => whnf
  rw [wrap_i64 (left - 1) (by omega) (by omega), show decide (left - 1 < 0) = false from decide_eq_false (by omega)]
  conv => whnf
  rw [show decide (deep > 12) = false from decide_eq_false (by omega)]
  conv => whnf
  rw [bn (show ¬ k = 2 by omega)]
  conv => whnf
  rw [bn (show ¬ k = 1 by omega)]
  conv => whnf
  rw [bn (show ¬ k = 2 by omega)]
  conv => whnf
  refine loop_intro (fun y : { j : Nat // j ≤ l.length ∧ 0 ≤ left - 1 - (nL (l.take j) : Int) ∧ okl (l.drop j) (deep + 1) (left - 1 - (nL (l.take j) : Int)) } =>
    ⟨[(1, i64 deep), (2, .ptr 0 0 0), (3, .ptr 1 0 0), (7, .sl (some 2) 1 (vR (vL (l.take y.1)))), (74, .sl none 4 (itR l)), (75, i64 (l.length : Nat)), (76, i64 (y.1 : Nat))],
      [(0, .own 1 [[i64 (left - 1 - (nL (l.take y.1) : Int))]]), (1, .own 4 [[i64 k, i64 n, str s, .sl none 4 (itR l)]]), (2, .tok 1 y.1)], 106, 3, RLO⟩) (fun y => l.length - y.1) ⟨0, Nat.zero_le _, by rw [List.take_zero, nL]; omega, by rw [List.take_zero, nL, List.drop_zero, show left - 1 - ((0 : Nat) : Int) = left - 1 by omega]; exact ho4⟩ ?_ ?_
  · refine Wk.intro [] rfl (fun p hp => by cases hp) ⟨.same rfl trivial, .same rfl (by exact rfl), .same rfl (by exact rfl), .same ?_ (by exact rfl), .same rfl trivial, .same (congrArg i64 (by rw [itR_len])) trivial, .same rfl trivial, trivial⟩
      ⟨⟨rfl, .inl ⟨?_, lf_lt _ _⟩⟩, ⟨rfl, .inl ⟨rfl, it_row _ _ _ _ _⟩⟩, ⟨rfl, .inl ⟨rfl, trivial⟩⟩, trivial⟩
    · show T.sl (some 2) 1 [] = _
      rw [List.take_zero, vL, vR]
    · show some (Blk.own 1 [[i64 (left - 1)]]) = _
      rw [List.take_zero, nL, show left - 1 - ((0 : Nat) : Int) = left - 1 by omega]
  rintro ⟨j, g1, g2, g3⟩
  dsimp only
  conv => whnf
  refine br_intro (fun h1 => ?_) (fun h1 => ?_) <;> (rw [h1]; conv => whnf)
  · have hj : j < l.length := by have := of_decide_eq_true h1; omega
    have hmem : l[j] ∈ l := List.getElem_mem hj
    have hjn := tk_nL l g1
    have hlen := vLt_len g1
    have htn := take_nL hj
    have htv := take_vR hj
    refine ⟨by omega, nthK_intro (itR_get (List.getElem?_eq_getElem hj)) ?_⟩
    conv => whnf
    rw [wrap_i64 (deep + 1) (by omega) (by omega)]
    have hdr : l.drop j = l[j] :: l.drop (j + 1) := List.drop_eq_getElem_cons hj
    rw [hdr] at g3
    rw [okl_cons] at g3
    have hii := inIs_mem hin.2 hmem
    generalize hlj : l[j] = i at g3 hmem htn htv hii ⊢
    · obtain ⟨g4, g3⟩ := g3
      have hc := (ih i hmem).1 (deep + 1) (left - 1 - (nL (l.take j) : Int)) (by omega) (by omega) g2 (by omega) hii g4
      have hni : ((nL (l.take j) : Nat) : Int) + (nI i : Int) = ((nL (l.take (j + 1)) : Nat) : Int) := by omega
      have hnn : left - 1 - (nL (l.take j) : Int) - (nI i : Int) = left - 1 - (nL (l.take (j + 1)) : Int) := by omega
      have hg4 := g4.1
      rw [hnn] at hc g3
      rcases vT_form (vI i) with ⟨ea, eb, e⟩ | ⟨ea, eb, e⟩ <;> rw [e] at hc htv <;>
        refine .inl ⟨[0], _, _, _, _, lfM (left - 1 - (nL (l.take (j + 1)) : Int)), _, hc, ⟨rfl, ⟨rfl, trivial⟩, rfl, rfl, lf_in rfl, rfl, rfl, lf_out 0 _ _⟩, ?_⟩ <;> (conv => whnf) <;>
        (have nb : (Try.prog.types[20]).bytes = 16 := rfl) <;>
        (refine ⟨hlen, by rw [hlen, nb]; show (j + 1) * 16 ≤ _; omega, by rw [hlen]; show j + 1 ≤ _; omega, ?_⟩) <;>
        (conv => whnf) <;>
        (refine Nx.intro ⟨j + 1, by omega, by omega, g3⟩ (by dsimp only; omega) ?_) <;>
        (refine Wk.intro [] rfl (fun p hp => by cases hp) ⟨.same rfl trivial, .same rfl (by exact rfl), .same rfl (by exact rfl), .same (congrArg (T.sl (some 2) 1) htv.symm) (by exact rfl), .same rfl trivial, .same rfl trivial, .same (congrArg i64 ?_) trivial, trivial⟩
          ⟨⟨rfl, .inl ⟨rfl, lf_lt _ _⟩⟩, ⟨rfl, .inl ⟨rfl, it_row _ _ _ _ _⟩⟩, ⟨rfl, .inl ⟨?_, trivial⟩⟩, trivial⟩) <;>
        first
        | (rw [wrap_i64 _ (by omega) (by omega)]; rfl)
        | (show some (Blk.tok 1 ((vR (vL (l.take j))).length + 1)) = _
           rw [hlen])
  · obtain rfl : j = l.length := by have := of_decide_eq_false h1; omega
    rw [List.take_length]
    rw [qq (show k = 3 by omega)]
    conv => whnf
    rw [qq (show n = 0 by omega)]
    conv => whnf
    rw [show (!(ByteArray.toList ⟨s.toArray⟩ == ByteArray.toList ⟨#[]⟩)) = false by rw [empty_eq, hC.2.2]; rfl]
    conv => whnf
    exact ⟨[(0, 0)], ⟨rfl, rfl, rfl⟩, .inl rfl, lf_keep _ (congrArg (fun z => some (Blk.own 1 [[i64 z]])) (show left - 1 - (nL l : Int) = left - ((1 + nL l : Nat) : Int) by omega))⟩
theorem of_bad (k n : Int) (s : List UInt8) (l : List It) (ih : ∀ i ∈ l, OfOk i ∧ OfNo i) (hA : ¬ (k = 1 ∧ s = [] ∧ l = [])) (hB : ¬ (k = 2 ∧ n = 0 ∧ l = [])) (hC : k ≠ 3 ∨ n ≠ 0 ∨ s ≠ []) : OfOk (.mk k n s l) := by
  intro deep left hd1 hd hl0 hl1 hin ho
  rw [okc_mk] at ho
  rw [inI] at hin
  obtain ⟨ho1, ho2, ho3, ho4⟩ := ho
  rw [vI, if_neg hA, if_neg hB, if_pos hC, vT, nI]
  refine FCm_of_awp (fn := Try.f43) (c := bodyC Try.f43) Try.func43 rfl (of_decide_eq_true rfl) RLO rfl ?_
  rw [show itT (.mk k n s l) = .agg [i64 k, i64 n, str s, .sl none 4 (itR l)] from congrArg T.agg (itC_eq _)]
  conv => whnf
  rw [wrap_i64 (left - 1) (by omega) (by omega), show decide (left - 1 < 0) = false from decide_eq_false (by omega)]
  conv => whnf
  rw [show decide (deep > 12) = false from decide_eq_false (by omega)]
  conv => whnf
  by_cases hk2 : k = 2
  · rw [bq hk2]
    conv => whnf
    rw [show decide (((ByteArray.size ⟨s.toArray⟩ : Nat) : Int) > 4096) = false from decide_eq_false (by
      have e : (⟨s.toArray⟩ : ByteArray).size = s.length := List.size_toArray ..
      rw [e]; omega)]
    conv => whnf
    rw [bn (show ¬ k = 1 by omega)]
    conv => whnf
    rw [bq hk2]
    conv => whnf
    by_cases hn : n = 0
    · rw [bq hn]
      conv => whnf
      rw [bl (fun e => hB ⟨hk2, hn, e⟩)]
      conv => whnf
      refine loop_intro (fun y : { j : Nat // j ≤ l.length ∧ 0 ≤ left - 1 - (nL (l.take j) : Int) ∧ okl (l.drop j) (deep + 1) (left - 1 - (nL (l.take j) : Int)) } =>
        ⟨[(1, i64 deep), (2, .ptr 0 0 0), (3, .ptr 1 0 0), (7, .sl (some 2) 1 (vR (vL (l.take y.1)))), (74, .sl none 4 (itR l)), (75, i64 (l.length : Nat)), (76, i64 (y.1 : Nat))],
          [(0, .own 1 [[i64 (left - 1 - (nL (l.take y.1) : Int))]]), (1, .own 4 [[i64 k, i64 n, str s, .sl none 4 (itR l)]]), (2, .tok 1 y.1)], 106, 3, RLO⟩) (fun y => l.length - y.1) ⟨0, Nat.zero_le _, by rw [List.take_zero, nL]; omega, by rw [List.take_zero, nL, List.drop_zero, show left - 1 - ((0 : Nat) : Int) = left - 1 by omega]; exact ho4⟩ ?_ ?_
      · refine Wk.intro [] rfl (fun p hp => by cases hp) ⟨.same rfl trivial, .same rfl (by exact rfl), .same rfl (by exact rfl), .same ?_ (by exact rfl), .same rfl trivial, .same (congrArg i64 (by rw [itR_len])) trivial, .same rfl trivial, trivial⟩
          ⟨⟨rfl, .inl ⟨?_, lf_lt _ _⟩⟩, ⟨rfl, .inl ⟨rfl, it_row _ _ _ _ _⟩⟩, ⟨rfl, .inl ⟨rfl, trivial⟩⟩, trivial⟩
        · show T.sl (some 2) 1 [] = _
          rw [List.take_zero, vL, vR]
        · show some (Blk.own 1 [[i64 (left - 1)]]) = _
          rw [List.take_zero, nL, show left - 1 - ((0 : Nat) : Int) = left - 1 by omega]
      rintro ⟨j, g1, g2, g3⟩
      dsimp only
      conv => whnf
      refine br_intro (fun h1 => ?_) (fun h1 => ?_) <;> (rw [h1]; conv => whnf)
      · have hj : j < l.length := by have := of_decide_eq_true h1; omega
        have hmem : l[j] ∈ l := List.getElem_mem hj
        have hjn := tk_nL l g1
        have hlen := vLt_len g1
        have htn := take_nL hj
        have htv := take_vR hj
        refine ⟨by omega, nthK_intro (itR_get (List.getElem?_eq_getElem hj)) ?_⟩
        conv => whnf
        rw [wrap_i64 (deep + 1) (by omega) (by omega)]
        have hdr : l.drop j = l[j] :: l.drop (j + 1) := List.drop_eq_getElem_cons hj
        rw [hdr] at g3
        rw [okl_cons] at g3
        have hii := inIs_mem hin.2 hmem
        generalize hlj : l[j] = i at g3 hmem htn htv hii ⊢
        · obtain ⟨g4, g3⟩ := g3
          have hc := (ih i hmem).1 (deep + 1) (left - 1 - (nL (l.take j) : Int)) (by omega) (by omega) g2 (by omega) hii g4
          have hni : ((nL (l.take j) : Nat) : Int) + (nI i : Int) = ((nL (l.take (j + 1)) : Nat) : Int) := by omega
          have hnn : left - 1 - (nL (l.take j) : Int) - (nI i : Int) = left - 1 - (nL (l.take (j + 1)) : Int) := by omega
          have hg4 := g4.1
          rw [hnn] at hc g3
          rcases vT_form (vI i) with ⟨ea, eb, e⟩ | ⟨ea, eb, e⟩ <;> rw [e] at hc htv <;>
            refine .inl ⟨[0], _, _, _, _, lfM (left - 1 - (nL (l.take (j + 1)) : Int)), _, hc, ⟨rfl, ⟨rfl, trivial⟩, rfl, rfl, lf_in rfl, rfl, rfl, lf_out 0 _ _⟩, ?_⟩ <;> (conv => whnf) <;>
            (have nb : (Try.prog.types[20]).bytes = 16 := rfl) <;>
            (refine ⟨hlen, by rw [hlen, nb]; show (j + 1) * 16 ≤ _; omega, by rw [hlen]; show j + 1 ≤ _; omega, ?_⟩) <;>
            (conv => whnf) <;>
            (refine Nx.intro ⟨j + 1, by omega, by omega, g3⟩ (by dsimp only; omega) ?_) <;>
            (refine Wk.intro [] rfl (fun p hp => by cases hp) ⟨.same rfl trivial, .same rfl (by exact rfl), .same rfl (by exact rfl), .same (congrArg (T.sl (some 2) 1) htv.symm) (by exact rfl), .same rfl trivial, .same rfl trivial, .same (congrArg i64 ?_) trivial, trivial⟩
              ⟨⟨rfl, .inl ⟨rfl, lf_lt _ _⟩⟩, ⟨rfl, .inl ⟨rfl, it_row _ _ _ _ _⟩⟩, ⟨rfl, .inl ⟨?_, trivial⟩⟩, trivial⟩) <;>
            first
            | (rw [wrap_i64 _ (by omega) (by omega)]; rfl)
            | (show some (Blk.tok 1 ((vR (vL (l.take j))).length + 1)) = _
               rw [hlen])
      · obtain rfl : j = l.length := by have := of_decide_eq_false h1; omega
        rw [List.take_length]
        by_cases hk3 : k = 3
        · rw [qq hk3]
          conv => whnf
          by_cases hn0 : n = 0
          · rw [qq hn0]
            conv => whnf
            rw [nbe (fun e => (hC.resolve_left (fun h => h hk3)).elim (fun h => h hn0) (fun h => h e))]
            conv => whnf
            exact ⟨[(0, 0)], ⟨rfl, rfl, rfl⟩, .inl rfl, lf_keep _ (congrArg (fun z => some (Blk.own 1 [[i64 z]])) (show left - 1 - (nL l : Int) = left - ((1 + nL l : Nat) : Int) by omega))⟩
          · rw [qn hn0]
            conv => whnf
            exact ⟨[(0, 0)], ⟨rfl, rfl, rfl⟩, .inl rfl, lf_keep _ (congrArg (fun z => some (Blk.own 1 [[i64 z]])) (show left - 1 - (nL l : Int) = left - ((1 + nL l : Nat) : Int) by omega))⟩
        · rw [qn hk3]
          conv => whnf
          exact ⟨[(0, 0)], ⟨rfl, rfl, rfl⟩, .inl rfl, lf_keep _ (congrArg (fun z => some (Blk.own 1 [[i64 z]])) (show left - 1 - (nL l : Int) = left - ((1 + nL l : Nat) : Int) by omega))⟩
    · rw [bn hn]
      conv => whnf
      refine loop_intro (fun y : { j : Nat // j ≤ l.length ∧ 0 ≤ left - 1 - (nL (l.take j) : Int) ∧ okl (l.drop j) (deep + 1) (left - 1 - (nL (l.take j) : Int)) } =>
        ⟨[(1, i64 deep), (2, .ptr 0 0 0), (3, .ptr 1 0 0), (7, .sl (some 2) 1 (vR (vL (l.take y.1)))), (74, .sl none 4 (itR l)), (75, i64 (l.length : Nat)), (76, i64 (y.1 : Nat))],
          [(0, .own 1 [[i64 (left - 1 - (nL (l.take y.1) : Int))]]), (1, .own 4 [[i64 k, i64 n, str s, .sl none 4 (itR l)]]), (2, .tok 1 y.1)], 106, 3, RLO⟩) (fun y => l.length - y.1) ⟨0, Nat.zero_le _, by rw [List.take_zero, nL]; omega, by rw [List.take_zero, nL, List.drop_zero, show left - 1 - ((0 : Nat) : Int) = left - 1 by omega]; exact ho4⟩ ?_ ?_
      · refine Wk.intro [] rfl (fun p hp => by cases hp) ⟨.same rfl trivial, .same rfl (by exact rfl), .same rfl (by exact rfl), .same ?_ (by exact rfl), .same rfl trivial, .same (congrArg i64 (by rw [itR_len])) trivial, .same rfl trivial, trivial⟩
          ⟨⟨rfl, .inl ⟨?_, lf_lt _ _⟩⟩, ⟨rfl, .inl ⟨rfl, it_row _ _ _ _ _⟩⟩, ⟨rfl, .inl ⟨rfl, trivial⟩⟩, trivial⟩
        · show T.sl (some 2) 1 [] = _
          rw [List.take_zero, vL, vR]
        · show some (Blk.own 1 [[i64 (left - 1)]]) = _
          rw [List.take_zero, nL, show left - 1 - ((0 : Nat) : Int) = left - 1 by omega]
      rintro ⟨j, g1, g2, g3⟩
      dsimp only
      conv => whnf
      refine br_intro (fun h1 => ?_) (fun h1 => ?_) <;> (rw [h1]; conv => whnf)
      · have hj : j < l.length := by have := of_decide_eq_true h1; omega
        have hmem : l[j] ∈ l := List.getElem_mem hj
        have hjn := tk_nL l g1
        have hlen := vLt_len g1
        have htn := take_nL hj
        have htv := take_vR hj
        refine ⟨by omega, nthK_intro (itR_get (List.getElem?_eq_getElem hj)) ?_⟩
        conv => whnf
        rw [wrap_i64 (deep + 1) (by omega) (by omega)]
        have hdr : l.drop j = l[j] :: l.drop (j + 1) := List.drop_eq_getElem_cons hj
        rw [hdr] at g3
        rw [okl_cons] at g3
        have hii := inIs_mem hin.2 hmem
        generalize hlj : l[j] = i at g3 hmem htn htv hii ⊢
        · obtain ⟨g4, g3⟩ := g3
          have hc := (ih i hmem).1 (deep + 1) (left - 1 - (nL (l.take j) : Int)) (by omega) (by omega) g2 (by omega) hii g4
          have hni : ((nL (l.take j) : Nat) : Int) + (nI i : Int) = ((nL (l.take (j + 1)) : Nat) : Int) := by omega
          have hnn : left - 1 - (nL (l.take j) : Int) - (nI i : Int) = left - 1 - (nL (l.take (j + 1)) : Int) := by omega
          have hg4 := g4.1
          rw [hnn] at hc g3
          rcases vT_form (vI i) with ⟨ea, eb, e⟩ | ⟨ea, eb, e⟩ <;> rw [e] at hc htv <;>
            refine .inl ⟨[0], _, _, _, _, lfM (left - 1 - (nL (l.take (j + 1)) : Int)), _, hc, ⟨rfl, ⟨rfl, trivial⟩, rfl, rfl, lf_in rfl, rfl, rfl, lf_out 0 _ _⟩, ?_⟩ <;> (conv => whnf) <;>
            (have nb : (Try.prog.types[20]).bytes = 16 := rfl) <;>
            (refine ⟨hlen, by rw [hlen, nb]; show (j + 1) * 16 ≤ _; omega, by rw [hlen]; show j + 1 ≤ _; omega, ?_⟩) <;>
            (conv => whnf) <;>
            (refine Nx.intro ⟨j + 1, by omega, by omega, g3⟩ (by dsimp only; omega) ?_) <;>
            (refine Wk.intro [] rfl (fun p hp => by cases hp) ⟨.same rfl trivial, .same rfl (by exact rfl), .same rfl (by exact rfl), .same (congrArg (T.sl (some 2) 1) htv.symm) (by exact rfl), .same rfl trivial, .same rfl trivial, .same (congrArg i64 ?_) trivial, trivial⟩
              ⟨⟨rfl, .inl ⟨rfl, lf_lt _ _⟩⟩, ⟨rfl, .inl ⟨rfl, it_row _ _ _ _ _⟩⟩, ⟨rfl, .inl ⟨?_, trivial⟩⟩, trivial⟩) <;>
            first
            | (rw [wrap_i64 _ (by omega) (by omega)]; rfl)
            | (show some (Blk.tok 1 ((vR (vL (l.take j))).length + 1)) = _
               rw [hlen])
      · obtain rfl : j = l.length := by have := of_decide_eq_false h1; omega
        rw [List.take_length]
        by_cases hk3 : k = 3
        · rw [qq hk3]
          conv => whnf
          by_cases hn0 : n = 0
          · rw [qq hn0]
            conv => whnf
            rw [nbe (fun e => (hC.resolve_left (fun h => h hk3)).elim (fun h => h hn0) (fun h => h e))]
            conv => whnf
            exact ⟨[(0, 0)], ⟨rfl, rfl, rfl⟩, .inl rfl, lf_keep _ (congrArg (fun z => some (Blk.own 1 [[i64 z]])) (show left - 1 - (nL l : Int) = left - ((1 + nL l : Nat) : Int) by omega))⟩
          · rw [qn hn0]
            conv => whnf
            exact ⟨[(0, 0)], ⟨rfl, rfl, rfl⟩, .inl rfl, lf_keep _ (congrArg (fun z => some (Blk.own 1 [[i64 z]])) (show left - 1 - (nL l : Int) = left - ((1 + nL l : Nat) : Int) by omega))⟩
        · rw [qn hk3]
          conv => whnf
          exact ⟨[(0, 0)], ⟨rfl, rfl, rfl⟩, .inl rfl, lf_keep _ (congrArg (fun z => some (Blk.own 1 [[i64 z]])) (show left - 1 - (nL l : Int) = left - ((1 + nL l : Nat) : Int) by omega))⟩
  · rw [bn hk2]
    conv => whnf
    by_cases hk1 : k = 1
    · rw [bq hk1]
      conv => whnf
      by_cases hs : s = []
      · rw [show (ByteArray.toList ⟨s.toArray⟩ == ByteArray.toList ⟨#[]⟩) = true by rw [empty_eq, hs]; rfl]
        conv => whnf
        rw [bl (fun e => hA ⟨hk1, hs, e⟩)]
        conv => whnf
        rw [bn hk2]
        conv => whnf
        refine loop_intro (fun y : { j : Nat // j ≤ l.length ∧ 0 ≤ left - 1 - (nL (l.take j) : Int) ∧ okl (l.drop j) (deep + 1) (left - 1 - (nL (l.take j) : Int)) } =>
          ⟨[(1, i64 deep), (2, .ptr 0 0 0), (3, .ptr 1 0 0), (7, .sl (some 2) 1 (vR (vL (l.take y.1)))), (74, .sl none 4 (itR l)), (75, i64 (l.length : Nat)), (76, i64 (y.1 : Nat))],
            [(0, .own 1 [[i64 (left - 1 - (nL (l.take y.1) : Int))]]), (1, .own 4 [[i64 k, i64 n, str s, .sl none 4 (itR l)]]), (2, .tok 1 y.1)], 106, 3, RLO⟩) (fun y => l.length - y.1) ⟨0, Nat.zero_le _, by rw [List.take_zero, nL]; omega, by rw [List.take_zero, nL, List.drop_zero, show left - 1 - ((0 : Nat) : Int) = left - 1 by omega]; exact ho4⟩ ?_ ?_
        · refine Wk.intro [] rfl (fun p hp => by cases hp) ⟨.same rfl trivial, .same rfl (by exact rfl), .same rfl (by exact rfl), .same ?_ (by exact rfl), .same rfl trivial, .same (congrArg i64 (by rw [itR_len])) trivial, .same rfl trivial, trivial⟩
            ⟨⟨rfl, .inl ⟨?_, lf_lt _ _⟩⟩, ⟨rfl, .inl ⟨rfl, it_row _ _ _ _ _⟩⟩, ⟨rfl, .inl ⟨rfl, trivial⟩⟩, trivial⟩
          · show T.sl (some 2) 1 [] = _
            rw [List.take_zero, vL, vR]
          · show some (Blk.own 1 [[i64 (left - 1)]]) = _
            rw [List.take_zero, nL, show left - 1 - ((0 : Nat) : Int) = left - 1 by omega]
        rintro ⟨j, g1, g2, g3⟩
        dsimp only
        conv => whnf
        refine br_intro (fun h1 => ?_) (fun h1 => ?_) <;> (rw [h1]; conv => whnf)
        · have hj : j < l.length := by have := of_decide_eq_true h1; omega
          have hmem : l[j] ∈ l := List.getElem_mem hj
          have hjn := tk_nL l g1
          have hlen := vLt_len g1
          have htn := take_nL hj
          have htv := take_vR hj
          refine ⟨by omega, nthK_intro (itR_get (List.getElem?_eq_getElem hj)) ?_⟩
          conv => whnf
          rw [wrap_i64 (deep + 1) (by omega) (by omega)]
          have hdr : l.drop j = l[j] :: l.drop (j + 1) := List.drop_eq_getElem_cons hj
          rw [hdr] at g3
          rw [okl_cons] at g3
          have hii := inIs_mem hin.2 hmem
          generalize hlj : l[j] = i at g3 hmem htn htv hii ⊢
          · obtain ⟨g4, g3⟩ := g3
            have hc := (ih i hmem).1 (deep + 1) (left - 1 - (nL (l.take j) : Int)) (by omega) (by omega) g2 (by omega) hii g4
            have hni : ((nL (l.take j) : Nat) : Int) + (nI i : Int) = ((nL (l.take (j + 1)) : Nat) : Int) := by omega
            have hnn : left - 1 - (nL (l.take j) : Int) - (nI i : Int) = left - 1 - (nL (l.take (j + 1)) : Int) := by omega
            have hg4 := g4.1
            rw [hnn] at hc g3
            rcases vT_form (vI i) with ⟨ea, eb, e⟩ | ⟨ea, eb, e⟩ <;> rw [e] at hc htv <;>
              refine .inl ⟨[0], _, _, _, _, lfM (left - 1 - (nL (l.take (j + 1)) : Int)), _, hc, ⟨rfl, ⟨rfl, trivial⟩, rfl, rfl, lf_in rfl, rfl, rfl, lf_out 0 _ _⟩, ?_⟩ <;> (conv => whnf) <;>
              (have nb : (Try.prog.types[20]).bytes = 16 := rfl) <;>
              (refine ⟨hlen, by rw [hlen, nb]; show (j + 1) * 16 ≤ _; omega, by rw [hlen]; show j + 1 ≤ _; omega, ?_⟩) <;>
              (conv => whnf) <;>
              (refine Nx.intro ⟨j + 1, by omega, by omega, g3⟩ (by dsimp only; omega) ?_) <;>
              (refine Wk.intro [] rfl (fun p hp => by cases hp) ⟨.same rfl trivial, .same rfl (by exact rfl), .same rfl (by exact rfl), .same (congrArg (T.sl (some 2) 1) htv.symm) (by exact rfl), .same rfl trivial, .same rfl trivial, .same (congrArg i64 ?_) trivial, trivial⟩
                ⟨⟨rfl, .inl ⟨rfl, lf_lt _ _⟩⟩, ⟨rfl, .inl ⟨rfl, it_row _ _ _ _ _⟩⟩, ⟨rfl, .inl ⟨?_, trivial⟩⟩, trivial⟩) <;>
              first
              | (rw [wrap_i64 _ (by omega) (by omega)]; rfl)
              | (show some (Blk.tok 1 ((vR (vL (l.take j))).length + 1)) = _
                 rw [hlen])
        · obtain rfl : j = l.length := by have := of_decide_eq_false h1; omega
          rw [List.take_length]
          by_cases hk3 : k = 3
          · rw [qq hk3]
            conv => whnf
            by_cases hn0 : n = 0
            · rw [qq hn0]
              conv => whnf
              rw [nbe (fun e => (hC.resolve_left (fun h => h hk3)).elim (fun h => h hn0) (fun h => h e))]
              conv => whnf
              exact ⟨[(0, 0)], ⟨rfl, rfl, rfl⟩, .inl rfl, lf_keep _ (congrArg (fun z => some (Blk.own 1 [[i64 z]])) (show left - 1 - (nL l : Int) = left - ((1 + nL l : Nat) : Int) by omega))⟩
            · rw [qn hn0]
              conv => whnf
              exact ⟨[(0, 0)], ⟨rfl, rfl, rfl⟩, .inl rfl, lf_keep _ (congrArg (fun z => some (Blk.own 1 [[i64 z]])) (show left - 1 - (nL l : Int) = left - ((1 + nL l : Nat) : Int) by omega))⟩
          · rw [qn hk3]
            conv => whnf
            exact ⟨[(0, 0)], ⟨rfl, rfl, rfl⟩, .inl rfl, lf_keep _ (congrArg (fun z => some (Blk.own 1 [[i64 z]])) (show left - 1 - (nL l : Int) = left - ((1 + nL l : Nat) : Int) by omega))⟩
      · rw [be hs]
        conv => whnf
        rw [bn hk2]
        conv => whnf
        refine loop_intro (fun y : { j : Nat // j ≤ l.length ∧ 0 ≤ left - 1 - (nL (l.take j) : Int) ∧ okl (l.drop j) (deep + 1) (left - 1 - (nL (l.take j) : Int)) } =>
          ⟨[(1, i64 deep), (2, .ptr 0 0 0), (3, .ptr 1 0 0), (7, .sl (some 2) 1 (vR (vL (l.take y.1)))), (74, .sl none 4 (itR l)), (75, i64 (l.length : Nat)), (76, i64 (y.1 : Nat))],
            [(0, .own 1 [[i64 (left - 1 - (nL (l.take y.1) : Int))]]), (1, .own 4 [[i64 k, i64 n, str s, .sl none 4 (itR l)]]), (2, .tok 1 y.1)], 106, 3, RLO⟩) (fun y => l.length - y.1) ⟨0, Nat.zero_le _, by rw [List.take_zero, nL]; omega, by rw [List.take_zero, nL, List.drop_zero, show left - 1 - ((0 : Nat) : Int) = left - 1 by omega]; exact ho4⟩ ?_ ?_
        · refine Wk.intro [] rfl (fun p hp => by cases hp) ⟨.same rfl trivial, .same rfl (by exact rfl), .same rfl (by exact rfl), .same ?_ (by exact rfl), .same rfl trivial, .same (congrArg i64 (by rw [itR_len])) trivial, .same rfl trivial, trivial⟩
            ⟨⟨rfl, .inl ⟨?_, lf_lt _ _⟩⟩, ⟨rfl, .inl ⟨rfl, it_row _ _ _ _ _⟩⟩, ⟨rfl, .inl ⟨rfl, trivial⟩⟩, trivial⟩
          · show T.sl (some 2) 1 [] = _
            rw [List.take_zero, vL, vR]
          · show some (Blk.own 1 [[i64 (left - 1)]]) = _
            rw [List.take_zero, nL, show left - 1 - ((0 : Nat) : Int) = left - 1 by omega]
        rintro ⟨j, g1, g2, g3⟩
        dsimp only
        conv => whnf
        refine br_intro (fun h1 => ?_) (fun h1 => ?_) <;> (rw [h1]; conv => whnf)
        · have hj : j < l.length := by have := of_decide_eq_true h1; omega
          have hmem : l[j] ∈ l := List.getElem_mem hj
          have hjn := tk_nL l g1
          have hlen := vLt_len g1
          have htn := take_nL hj
          have htv := take_vR hj
          refine ⟨by omega, nthK_intro (itR_get (List.getElem?_eq_getElem hj)) ?_⟩
          conv => whnf
          rw [wrap_i64 (deep + 1) (by omega) (by omega)]
          have hdr : l.drop j = l[j] :: l.drop (j + 1) := List.drop_eq_getElem_cons hj
          rw [hdr] at g3
          rw [okl_cons] at g3
          have hii := inIs_mem hin.2 hmem
          generalize hlj : l[j] = i at g3 hmem htn htv hii ⊢
          · obtain ⟨g4, g3⟩ := g3
            have hc := (ih i hmem).1 (deep + 1) (left - 1 - (nL (l.take j) : Int)) (by omega) (by omega) g2 (by omega) hii g4
            have hni : ((nL (l.take j) : Nat) : Int) + (nI i : Int) = ((nL (l.take (j + 1)) : Nat) : Int) := by omega
            have hnn : left - 1 - (nL (l.take j) : Int) - (nI i : Int) = left - 1 - (nL (l.take (j + 1)) : Int) := by omega
            have hg4 := g4.1
            rw [hnn] at hc g3
            rcases vT_form (vI i) with ⟨ea, eb, e⟩ | ⟨ea, eb, e⟩ <;> rw [e] at hc htv <;>
              refine .inl ⟨[0], _, _, _, _, lfM (left - 1 - (nL (l.take (j + 1)) : Int)), _, hc, ⟨rfl, ⟨rfl, trivial⟩, rfl, rfl, lf_in rfl, rfl, rfl, lf_out 0 _ _⟩, ?_⟩ <;> (conv => whnf) <;>
              (have nb : (Try.prog.types[20]).bytes = 16 := rfl) <;>
              (refine ⟨hlen, by rw [hlen, nb]; show (j + 1) * 16 ≤ _; omega, by rw [hlen]; show j + 1 ≤ _; omega, ?_⟩) <;>
              (conv => whnf) <;>
              (refine Nx.intro ⟨j + 1, by omega, by omega, g3⟩ (by dsimp only; omega) ?_) <;>
              (refine Wk.intro [] rfl (fun p hp => by cases hp) ⟨.same rfl trivial, .same rfl (by exact rfl), .same rfl (by exact rfl), .same (congrArg (T.sl (some 2) 1) htv.symm) (by exact rfl), .same rfl trivial, .same rfl trivial, .same (congrArg i64 ?_) trivial, trivial⟩
                ⟨⟨rfl, .inl ⟨rfl, lf_lt _ _⟩⟩, ⟨rfl, .inl ⟨rfl, it_row _ _ _ _ _⟩⟩, ⟨rfl, .inl ⟨?_, trivial⟩⟩, trivial⟩) <;>
              first
              | (rw [wrap_i64 _ (by omega) (by omega)]; rfl)
              | (show some (Blk.tok 1 ((vR (vL (l.take j))).length + 1)) = _
                 rw [hlen])
        · obtain rfl : j = l.length := by have := of_decide_eq_false h1; omega
          rw [List.take_length]
          by_cases hk3 : k = 3
          · rw [qq hk3]
            conv => whnf
            by_cases hn0 : n = 0
            · rw [qq hn0]
              conv => whnf
              rw [nbe (fun e => (hC.resolve_left (fun h => h hk3)).elim (fun h => h hn0) (fun h => h e))]
              conv => whnf
              exact ⟨[(0, 0)], ⟨rfl, rfl, rfl⟩, .inl rfl, lf_keep _ (congrArg (fun z => some (Blk.own 1 [[i64 z]])) (show left - 1 - (nL l : Int) = left - ((1 + nL l : Nat) : Int) by omega))⟩
            · rw [qn hn0]
              conv => whnf
              exact ⟨[(0, 0)], ⟨rfl, rfl, rfl⟩, .inl rfl, lf_keep _ (congrArg (fun z => some (Blk.own 1 [[i64 z]])) (show left - 1 - (nL l : Int) = left - ((1 + nL l : Nat) : Int) by omega))⟩
          · rw [qn hk3]
            conv => whnf
            exact ⟨[(0, 0)], ⟨rfl, rfl, rfl⟩, .inl rfl, lf_keep _ (congrArg (fun z => some (Blk.own 1 [[i64 z]])) (show left - 1 - (nL l : Int) = left - ((1 + nL l : Nat) : Int) by omega))⟩
    · rw [bn hk1]
      conv => whnf
      rw [bn hk2]
      conv => whnf
      refine loop_intro (fun y : { j : Nat // j ≤ l.length ∧ 0 ≤ left - 1 - (nL (l.take j) : Int) ∧ okl (l.drop j) (deep + 1) (left - 1 - (nL (l.take j) : Int)) } =>
        ⟨[(1, i64 deep), (2, .ptr 0 0 0), (3, .ptr 1 0 0), (7, .sl (some 2) 1 (vR (vL (l.take y.1)))), (74, .sl none 4 (itR l)), (75, i64 (l.length : Nat)), (76, i64 (y.1 : Nat))],
          [(0, .own 1 [[i64 (left - 1 - (nL (l.take y.1) : Int))]]), (1, .own 4 [[i64 k, i64 n, str s, .sl none 4 (itR l)]]), (2, .tok 1 y.1)], 106, 3, RLO⟩) (fun y => l.length - y.1) ⟨0, Nat.zero_le _, by rw [List.take_zero, nL]; omega, by rw [List.take_zero, nL, List.drop_zero, show left - 1 - ((0 : Nat) : Int) = left - 1 by omega]; exact ho4⟩ ?_ ?_
      · refine Wk.intro [] rfl (fun p hp => by cases hp) ⟨.same rfl trivial, .same rfl (by exact rfl), .same rfl (by exact rfl), .same ?_ (by exact rfl), .same rfl trivial, .same (congrArg i64 (by rw [itR_len])) trivial, .same rfl trivial, trivial⟩
          ⟨⟨rfl, .inl ⟨?_, lf_lt _ _⟩⟩, ⟨rfl, .inl ⟨rfl, it_row _ _ _ _ _⟩⟩, ⟨rfl, .inl ⟨rfl, trivial⟩⟩, trivial⟩
        · show T.sl (some 2) 1 [] = _
          rw [List.take_zero, vL, vR]
        · show some (Blk.own 1 [[i64 (left - 1)]]) = _
          rw [List.take_zero, nL, show left - 1 - ((0 : Nat) : Int) = left - 1 by omega]
      rintro ⟨j, g1, g2, g3⟩
      dsimp only
      conv => whnf
      refine br_intro (fun h1 => ?_) (fun h1 => ?_) <;> (rw [h1]; conv => whnf)
      · have hj : j < l.length := by have := of_decide_eq_true h1; omega
        have hmem : l[j] ∈ l := List.getElem_mem hj
        have hjn := tk_nL l g1
        have hlen := vLt_len g1
        have htn := take_nL hj
        have htv := take_vR hj
        refine ⟨by omega, nthK_intro (itR_get (List.getElem?_eq_getElem hj)) ?_⟩
        conv => whnf
        rw [wrap_i64 (deep + 1) (by omega) (by omega)]
        have hdr : l.drop j = l[j] :: l.drop (j + 1) := List.drop_eq_getElem_cons hj
        rw [hdr] at g3
        rw [okl_cons] at g3
        have hii := inIs_mem hin.2 hmem
        generalize hlj : l[j] = i at g3 hmem htn htv hii ⊢
        · obtain ⟨g4, g3⟩ := g3
          have hc := (ih i hmem).1 (deep + 1) (left - 1 - (nL (l.take j) : Int)) (by omega) (by omega) g2 (by omega) hii g4
          have hni : ((nL (l.take j) : Nat) : Int) + (nI i : Int) = ((nL (l.take (j + 1)) : Nat) : Int) := by omega
          have hnn : left - 1 - (nL (l.take j) : Int) - (nI i : Int) = left - 1 - (nL (l.take (j + 1)) : Int) := by omega
          have hg4 := g4.1
          rw [hnn] at hc g3
          rcases vT_form (vI i) with ⟨ea, eb, e⟩ | ⟨ea, eb, e⟩ <;> rw [e] at hc htv <;>
            refine .inl ⟨[0], _, _, _, _, lfM (left - 1 - (nL (l.take (j + 1)) : Int)), _, hc, ⟨rfl, ⟨rfl, trivial⟩, rfl, rfl, lf_in rfl, rfl, rfl, lf_out 0 _ _⟩, ?_⟩ <;> (conv => whnf) <;>
            (have nb : (Try.prog.types[20]).bytes = 16 := rfl) <;>
            (refine ⟨hlen, by rw [hlen, nb]; show (j + 1) * 16 ≤ _; omega, by rw [hlen]; show j + 1 ≤ _; omega, ?_⟩) <;>
            (conv => whnf) <;>
            (refine Nx.intro ⟨j + 1, by omega, by omega, g3⟩ (by dsimp only; omega) ?_) <;>
            (refine Wk.intro [] rfl (fun p hp => by cases hp) ⟨.same rfl trivial, .same rfl (by exact rfl), .same rfl (by exact rfl), .same (congrArg (T.sl (some 2) 1) htv.symm) (by exact rfl), .same rfl trivial, .same rfl trivial, .same (congrArg i64 ?_) trivial, trivial⟩
              ⟨⟨rfl, .inl ⟨rfl, lf_lt _ _⟩⟩, ⟨rfl, .inl ⟨rfl, it_row _ _ _ _ _⟩⟩, ⟨rfl, .inl ⟨?_, trivial⟩⟩, trivial⟩) <;>
            first
            | (rw [wrap_i64 _ (by omega) (by omega)]; rfl)
            | (show some (Blk.tok 1 ((vR (vL (l.take j))).length + 1)) = _
               rw [hlen])
      · obtain rfl : j = l.length := by have := of_decide_eq_false h1; omega
        rw [List.take_length]
        by_cases hk3 : k = 3
        · rw [qq hk3]
          conv => whnf
          by_cases hn0 : n = 0
          · rw [qq hn0]
            conv => whnf
            rw [nbe (fun e => (hC.resolve_left (fun h => h hk3)).elim (fun h => h hn0) (fun h => h e))]
            conv => whnf
            exact ⟨[(0, 0)], ⟨rfl, rfl, rfl⟩, .inl rfl, lf_keep _ (congrArg (fun z => some (Blk.own 1 [[i64 z]])) (show left - 1 - (nL l : Int) = left - ((1 + nL l : Nat) : Int) by omega))⟩
          · rw [qn hn0]
            conv => whnf
            exact ⟨[(0, 0)], ⟨rfl, rfl, rfl⟩, .inl rfl, lf_keep _ (congrArg (fun z => some (Blk.own 1 [[i64 z]])) (show left - 1 - (nL l : Int) = left - ((1 + nL l : Nat) : Int) by omega))⟩
        · rw [qn hk3]
          conv => whnf
          exact ⟨[(0, 0)], ⟨rfl, rfl, rfl⟩, .inl rfl, lf_keep _ (congrArg (fun z => some (Blk.own 1 [[i64 z]])) (show left - 1 - (nL l : Int) = left - ((1 + nL l : Nat) : Int) by omega))⟩
end Go.AW.Wir
