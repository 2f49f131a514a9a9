import Derived.Test.YtagligpagpaceaaWirW4
import Derived.Test.YtagligpagpaceaaP3
import Derived.Test.YtagligpagpaceaaAw27
/- The wire: values put, walked. -/
set_option linter.unusedVariables false
set_option linter.unusedSimpArgs false
namespace Go.AW.Wir
open Go Go.AW Go.Proofs
set_option maxRecDepth 10000
set_option pp.maxSteps 60

theorem zig_word (n : Int) (h1 : -9223372036854775808 ≤ n) (h2 : n ≤ 9223372036854775807) :
    bitsI .xor .u64 (IntKind.u64.wrap (IntKind.u64.wrap n * 2 ^ min (Int.toNat 1) IntKind.u64.bits)) (IntKind.u64.wrap (n.fdiv (2 ^ min (Int.toNat 63) IntKind.i64.bits))) = ((zig n : Nat) : Int) := by
  have e1 : (2 : Int) ^ min (Int.toNat 1) IntKind.u64.bits = 2 := by decide
  have e63 : (2 : Int) ^ min (Int.toNat 63) IntKind.i64.bits = 9223372036854775808 := by decide
  have hw : ∀ z : Int, IntKind.u64.wrap z = z % 18446744073709551616 := by
    intro z
    have e2 : (2 : Int) ^ IntKind.u64.bits = 18446744073709551616 := by decide
    simp only [IntKind.wrap, e2, show IntKind.u64.signed = false from rfl, Bool.false_and]
    rfl
  have hbits : ∀ x y : Int, bitsI .xor .u64 x y = IntKind.u64.wrap ((BitVec.ofInt 64 x ^^^ BitVec.ofInt 64 y : BitVec 64).toNat : Int) := fun _ _ => rfl
  rw [e1, e63, hbits]
  unfold zig
  by_cases h0 : 0 ≤ n
  · rw [if_pos h0]
    have hd : n.fdiv 9223372036854775808 = 0 := by rw [Int.fdiv_eq_ediv_of_nonneg _ (by decide)]; omega
    rw [hd, show IntKind.u64.wrap 0 = 0 from by decide, show BitVec.ofInt 64 0 = 0#64 from by decide, BitVec.xor_zero, BitVec.toNat_ofInt, hw, hw, hw]
    omega
  · rw [if_neg h0]
    have hd : n.fdiv 9223372036854775808 = -1 := by rw [Int.fdiv_eq_ediv_of_nonneg _ (by decide)]; omega
    rw [hd, show BitVec.ofInt 64 (IntKind.u64.wrap (-1)) = BitVec.allOnes 64 from by decide, BitVec.xor_allOnes, BitVec.toNat_not, BitVec.toNat_ofInt, hw, hw, hw]
    omega

mutual
/-- A value, as it is held. -/
def vT : Val → T
  | .num n => .lit (.iface 2 (.int .i64 n))
  | .txt s => .lit (.iface 9 (.string ⟨s.toArray⟩))
  | .lst l => .ifc 67 (.sl none 1 (vR l))
  | .bad => .lit (flt 4)
def vR : List Val → List (List T)
  | [] => []
  | v :: r => [vT v] :: vR r
end
theorem vR_map : ∀ l : List Val, vR l = l.map fun v => [vT v]
  | [] => rfl
  | v :: r => by rw [vR, vR_map r, List.map_cons]
theorem vR_len (l : List Val) : (vR l).length = l.length := by rw [vR_map, List.length_map]
theorem vR_get {l : List Val} {j : Nat} {v : Val} (h : l[j]? = some v) : (vR l)[j]? = some [vT v] := by rw [vR_map, List.getElem?_map, h]; rfl

def PutOk (v : Val) : Prop := ∀ (acc out : List UInt8), acc.length + szV v ≤ 1000000000 → inV v → enV v = some out →
  FCm Try.prog 23 [.sl (some 0) 1 (bytesR acc), vT v] (tkM acc) 1 (.sl (some 0) 1 (bytesR (acc ++ out))) (tkM (acc ++ out))
def PutNo (v : Val) : Prop := ∀ (acc : List UInt8), acc.length + szV v ≤ 1000000000 → inV v → enV v = none →
  FCx Try.prog 23 [.sl (some 0) 1 (bytesR acc), vT v] (tkM acc) 1 (flt 4)
abbrev RLP : List Nat := [2000001, 1000000 + 30, 1000000 + 23, 3000000 + 23]

theorem tk_in {m : Mem} {j : Nat} {b : List UInt8} (h : m.get j = some (.tok 1 b.length)) : memIn (asIn [j] 0) m (tkM b) :=
  ⟨⟨rfl, h, trivial⟩, trivial⟩
theorem tk_out (j id : Nat) (b : List UInt8) : memOut (asIn ([j] ++ [id]) 0) (tkM b) [(j, .tok 1 b.length)] :=
  ⟨⟨rfl, rfl, rfl, trivial⟩, trivial⟩

theorem vT_form : ∀ v : Val, (∃ a b, vT v = .lit (.iface a b)) ∨ ∃ a b, vT v = .ifc a (.sl none 1 b)
  | .num n => .inl ⟨_, _, by rw [vT]⟩
  | .txt s => .inl ⟨_, _, by rw [vT]⟩
  | .lst l => .inr ⟨_, _, by rw [vT]⟩
  | .bad => .inl ⟨_, _, by rw [vT]; rfl⟩
theorem app1 (acc : List UInt8) (c : UInt8) : bytesR (acc ++ [c]) = bytesR acc ++ [[.lit (.int .u8 c.toNat)]] := (bytesR_append acc [c]).symm
theorem tok1 (acc : List UInt8) (c : UInt8) : (acc ++ [c]).length = (bytesR acc).length + 1 := by rw [bytesR_len]; simp
theorem arg2 {a b a' b' : T} (h : a = a') (h2 : b = b') : [a, b] = [a', b'] := by rw [h, h2]
theorem put_num (n : Int) : PutOk (.num n) := by
  intro acc out hsz hin h
  rw [enV] at h
  cases h
  rw [inV] at hin
  rw [szV] at hsz
  rw [vT]
  refine FCm_of_awp (fn := Try.f23) (c := bodyC Try.f23) Try.func23 rfl (of_decide_eq_true rfl) RLP rfl ?_
  conv => whnf
  have nb : (Try.prog.types[5]).bytes = 1 := rfl
  refine ⟨bytesR_len _, by rw [nb, bytesR_len]; show (acc.length + 1) * 1 ≤ _; omega, by rw [bytesR_len]; show acc.length + 1 ≤ _; omega, ?_⟩
  conv => whnf
  refine ⟨by decide, ?_⟩
  conv => whnf
  refine ⟨by decide, ?_⟩
  conv => whnf
  rw [zig_word n hin.1 hin.2]
  have hz : zig n < 18446744073709551616 := by unfold zig; split <;> omega
  have hl1 : (acc ++ [1]).length = acc.length + 1 := by simp
  have hout : acc ++ [1] ++ cntB (zig n) = acc ++ 1 :: cntB (zig n) := by simp
  refine ⟨[0], _, _, _, _, tkM (acc ++ [1] ++ cntB (zig n)), _, cnt_law (acc ++ [1]) (by omega) (zig n) hz, ⟨rfl, ⟨rfl, trivial⟩, arg2 (congrArg (T.sl (some 0) 1) (app1 acc 1)) rfl, rfl, tk_in (congrArg (fun z => some (Blk.tok 1 z)) (tok1 acc 1).symm), rfl, rfl, tk_out 0 _ _⟩, ?_⟩
  conv => whnf
  refine ⟨[(0, 0)], ⟨rfl, rfl, rfl⟩, .inl (congrArg (fun z => T.sl (some 0) 1 (bytesR z)) hout), ⟨⟨0, _, rfl, rfl, rfl, ?_, trivial⟩, trivial⟩⟩
  show Blk.tok 1 _ = Blk.tok 1 _
  rw [hout]
theorem put_txt (s : List UInt8) : PutOk (.txt s) := by
  intro acc out hsz hin h
  rw [enV] at h
  cases h
  rw [szV] at hsz
  rw [vT]
  refine FCm_of_awp (fn := Try.f23) (c := bodyC Try.f23) Try.func23 rfl (of_decide_eq_true rfl) RLP rfl ?_
  conv => whnf
  have nb : (Try.prog.types[5]).bytes = 1 := rfl
  refine ⟨bytesR_len _, by rw [nb, bytesR_len]; show (acc.length + 1) * 1 ≤ _; omega, by rw [bytesR_len]; show acc.length + 1 ≤ _; omega, ?_⟩
  conv => whnf
  have hl1 : (acc ++ [2]).length = acc.length + 1 := by simp
  have hc9 := cntB_len s.length
  refine ⟨[0], _, _, _, _, tkM (acc ++ [2] ++ cntB s.length), _, cnt_law (acc ++ [2]) (by omega) s.length (by omega), ⟨rfl, ⟨rfl, trivial⟩, arg2 (congrArg (T.sl (some 0) 1) (app1 acc 2)) ?_, rfl, tk_in (congrArg (fun z => some (Blk.tok 1 z)) (tok1 acc 2).symm), rfl, rfl, tk_out 0 _ _⟩, ?_⟩
  · show T.lit (.int .u64 (s.length : Int)) = T.lit (.int .u64 (IntKind.u64.wrap (((⟨s.toArray⟩ : ByteArray).size : Nat) : Int)))
    have e : (⟨s.toArray⟩ : ByteArray).size = s.length := List.size_toArray ..
    rw [e, wrap_mod .u64 rfl, Nat.mod_eq_of_lt (by show _ < 18446744073709551616; omega)]
  conv => whnf
  have hl : (acc ++ [2] ++ cntB s.length).length ≤ acc.length + 10 := by rw [List.length_append]; omega
  have hd : ({ data := s.toArray } : ByteArray).data.toList = s := rfl
  rw [hd]
  refine ⟨bytesR_len _, by rw [nb, bytesR_len, bytesR_len]; show (_ + s.length) * 1 ≤ _; omega, by rw [bytesR_len, bytesR_len]; show _ + s.length ≤ _; omega, ?_⟩
  conv => whnf
  have hout : acc ++ [2] ++ cntB s.length ++ s = acc ++ (2 :: cntB s.length ++ s) := by simp
  refine ⟨[(0, 0)], ⟨rfl, rfl, rfl⟩, .inl ?_, ⟨⟨0, _, rfl, rfl, rfl, ?_, trivial⟩, trivial⟩⟩
  · show T.sl (some 0) 1 (bytesR _ ++ bytesR s) = T.sl (some 0) 1 _
    rw [bytesR_append, hout]
  · show Blk.tok 1 _ = Blk.tok 1 _
    rw [bytesR_len, bytesR_len, ← List.length_append, hout]
theorem put_bad : PutNo .bad := by
  intro acc hsz hin h
  rw [vT]
  refine FCx_of_awp (fn := Try.f23) (c := bodyC Try.f23) Try.func23 rfl (of_decide_eq_true rfl) RLP rfl ?_
  conv => whnf
  all_goals rfl
theorem put_lst (l : List Val) (ih : ∀ v ∈ l, PutOk v ∧ PutNo v) : PutOk (.lst l) := by
  intro acc out hsz hin h
  rw [szV] at hsz
  rw [inV] at hin
  rw [vT]
  refine FCm_of_awp (fn := Try.f23) (c := bodyC Try.f23) Try.func23 rfl (of_decide_eq_true rfl) RLP rfl ?_
  conv => whnf
  have nb : (Try.prog.types[5]).bytes = 1 := rfl
  refine ⟨bytesR_len _, by rw [nb, bytesR_len]; show (acc.length + 1) * 1 ≤ _; omega, by rw [bytesR_len]; show acc.length + 1 ≤ _; omega, ?_⟩
  conv => whnf
  have hl1 : (acc ++ [3]).length = acc.length + 1 := by simp
  have hc9 := cntB_len l.length
  have hll := szL_len l
  refine ⟨[0], _, _, _, _, tkM (acc ++ [3] ++ cntB l.length), _, cnt_law (acc ++ [3]) (by omega) l.length ?_, ⟨rfl, ⟨rfl, trivial⟩, arg2 (congrArg (T.sl (some 0) 1) (app1 acc 3)) ?_, rfl, tk_in (congrArg (fun z => some (Blk.tok 1 z)) (tok1 acc 3).symm), rfl, rfl, tk_out 0 _ _⟩, ?_⟩
  · omega
  · show T.lit (.int .u64 (l.length : Int)) = T.lit (.int .u64 (IntKind.u64.wrap (((vR l).length : Nat) : Int)))
    rw [vR_len, wrap_mod .u64 rfl, Nat.mod_eq_of_lt (by show _ < 18446744073709551616; omega)]
  conv => whnf
  rw [enV] at h
  have hout : acc ++ [3] ++ cntB l.length = acc ++ 3 :: cntB l.length := by simp
  have hbl : (acc ++ [3] ++ cntB l.length).length ≤ acc.length + 10 := by rw [List.length_append]; omega
  generalize hbase : acc ++ [3] ++ cntB l.length = base at hout hbl ⊢
  refine loop_intro (fun y : { p : Nat × List UInt8 // p.1 ≤ l.length ∧ base.length + p.2.length + szL (l.drop p.1) ≤ 1000000000 ∧ enL l = (enL (l.drop p.1)).map (p.2 ++ ·) } =>
    ⟨[(0, .sl (some 0) 1 (bytesR (base ++ y.1.2))), (60, .sl none 1 (vR l)), (61, i64 (l.length : Nat)), (62, i64 (y.1.1 : Nat))], tkM (base ++ y.1.2), 71, 1, RLP⟩) (fun y => l.length - y.1.1) ⟨(0, []), Nat.zero_le _, by simp only [List.length_nil, List.drop_zero]; omega, by simp⟩ ?_ ?_
  · dsimp only
    rw [List.append_nil]
    exact Wk.intro [] rfl (fun p hp => by cases hp) ⟨.same rfl (by exact rfl), .same rfl trivial, .same (congrArg i64 (by rw [vR_len])) trivial, .same rfl trivial, trivial⟩ ⟨⟨rfl, .inl ⟨rfl, trivial⟩⟩, trivial⟩
  rintro ⟨⟨j, pre⟩, g1, g2, g3⟩
  dsimp only at g1 g2 g3 ⊢
  conv => whnf
  refine br_intro (fun h1 => ?_) (fun h1 => ?_) <;> (rw [h1]; conv => whnf)
  · have hj : j < l.length := by have := of_decide_eq_true h1; omega
    refine ⟨by omega, nthK_intro (vR_get (List.getElem?_eq_getElem hj)) ?_⟩
    conv => whnf
    have hdr : l.drop j = l[j] :: l.drop (j + 1) := List.drop_eq_getElem_cons hj
    rw [hdr] at g2 g3
    rw [szL] at g2
    have hmem : l[j] ∈ l := List.getElem_mem hj
    generalize hlj : l[j] = v at g2 g3 hmem ⊢
    cases hv : enV v with
    | none => rw [enL_stop g3 hv] at h; cases h
    | some b =>
      have hbs := enV_len hv
      have hc := (ih v hmem).1 (base ++ pre) b (by rw [List.length_append]; omega) (inL_mem hin hmem) hv
      rcases vT_form v with ⟨ea, eb, e⟩ | ⟨ea, eb, e⟩ <;> rw [e] at hc ⊢ <;> (conv => whnf) <;>
        refine .inl ⟨[0], _, _, _, _, tkM (base ++ pre ++ b), _, hc, ⟨rfl, ⟨rfl, trivial⟩, rfl, rfl, tk_in rfl, rfl, rfl, tk_out 0 _ _⟩, ?_⟩ <;> (conv => whnf) <;>
        (refine Nx.intro ⟨(j + 1, pre ++ b), by dsimp only; omega, by dsimp only; rw [List.length_append]; omega, enL_step g3 hv⟩ (by dsimp only; omega) ?_) <;>
        dsimp only <;> rw [← List.append_assoc] <;>
        (refine Wk.intro [] rfl (fun p hp => by cases hp) ⟨.same rfl (by exact rfl), .same rfl trivial, .same rfl trivial, .same (congrArg i64 ?_) trivial, trivial⟩ ⟨⟨rfl, .inl ⟨rfl, trivial⟩⟩, trivial⟩) <;>
        (rw [wrap_i64 _ (by omega) (by omega)]; rfl)
  · obtain rfl : j = l.length := by have := of_decide_eq_false h1; omega
    rw [List.drop_length, enL] at g3
    rw [g3] at h
    cases h
    have ho : base ++ pre = acc ++ (3 :: cntB l.length ++ (pre ++ [])) := by rw [hout]; simp
    rw [← ho]
    exact ⟨[(0, 0)], ⟨rfl, rfl, rfl⟩, .inl rfl, ⟨⟨0, _, rfl, rfl, rfl, rfl, trivial⟩, trivial⟩⟩
theorem put_nol (l : List Val) (ih : ∀ v ∈ l, PutOk v ∧ PutNo v) : PutNo (.lst l) := by
  intro acc hsz hin h
  rw [szV] at hsz
  rw [inV] at hin
  rw [vT]
  refine FCx_of_awp (fn := Try.f23) (c := bodyC Try.f23) Try.func23 rfl (of_decide_eq_true rfl) RLP rfl ?_
  conv => whnf
  have nb : (Try.prog.types[5]).bytes = 1 := rfl
  refine ⟨bytesR_len _, by rw [nb, bytesR_len]; show (acc.length + 1) * 1 ≤ _; omega, by rw [bytesR_len]; show acc.length + 1 ≤ _; omega, ?_⟩
  conv => whnf
  have hl1 : (acc ++ [3]).length = acc.length + 1 := by simp
  have hc9 := cntB_len l.length
  have hll := szL_len l
  refine ⟨[0], _, _, _, _, tkM (acc ++ [3] ++ cntB l.length), _, cnt_law (acc ++ [3]) (by omega) l.length ?_, ⟨rfl, ⟨rfl, trivial⟩, arg2 (congrArg (T.sl (some 0) 1) (app1 acc 3)) ?_, rfl, tk_in (congrArg (fun z => some (Blk.tok 1 z)) (tok1 acc 3).symm), rfl, rfl, tk_out 0 _ _⟩, ?_⟩
  · omega
  · show T.lit (.int .u64 (l.length : Int)) = T.lit (.int .u64 (IntKind.u64.wrap (((vR l).length : Nat) : Int)))
    rw [vR_len, wrap_mod .u64 rfl, Nat.mod_eq_of_lt (by show _ < 18446744073709551616; omega)]
  conv => whnf
  rw [enV] at h
  have hout : acc ++ [3] ++ cntB l.length = acc ++ 3 :: cntB l.length := by simp
  have hbl : (acc ++ [3] ++ cntB l.length).length ≤ acc.length + 10 := by rw [List.length_append]; omega
  generalize hbase : acc ++ [3] ++ cntB l.length = base at hout hbl ⊢
  refine loop_intro (fun y : { p : Nat × List UInt8 // p.1 ≤ l.length ∧ base.length + p.2.length + szL (l.drop p.1) ≤ 1000000000 ∧ enL l = (enL (l.drop p.1)).map (p.2 ++ ·) } =>
    ⟨[(0, .sl (some 0) 1 (bytesR (base ++ y.1.2))), (60, .sl none 1 (vR l)), (61, i64 (l.length : Nat)), (62, i64 (y.1.1 : Nat))], tkM (base ++ y.1.2), 71, 1, RLP⟩) (fun y => l.length - y.1.1) ⟨(0, []), Nat.zero_le _, by simp only [List.length_nil, List.drop_zero]; omega, by simp⟩ ?_ ?_
  · dsimp only
    rw [List.append_nil]
    exact Wk.intro [] rfl (fun p hp => by cases hp) ⟨.same rfl (by exact rfl), .same rfl trivial, .same (congrArg i64 (by rw [vR_len])) trivial, .same rfl trivial, trivial⟩ ⟨⟨rfl, .inl ⟨rfl, trivial⟩⟩, trivial⟩
  rintro ⟨⟨j, pre⟩, g1, g2, g3⟩
  dsimp only at g1 g2 g3 ⊢
  conv => whnf
  refine br_intro (fun h1 => ?_) (fun h1 => ?_) <;> (rw [h1]; conv => whnf)
  · have hj : j < l.length := by have := of_decide_eq_true h1; omega
    refine ⟨by omega, nthK_intro (vR_get (List.getElem?_eq_getElem hj)) ?_⟩
    conv => whnf
    have hdr : l.drop j = l[j] :: l.drop (j + 1) := List.drop_eq_getElem_cons hj
    rw [hdr] at g2 g3
    rw [szL] at g2
    have hmem : l[j] ∈ l := List.getElem_mem hj
    generalize hlj : l[j] = v at g2 g3 hmem ⊢
    cases hv : enV v with
    | none =>
      have hc := (ih v hmem).2 (base ++ pre) (by rw [List.length_append]; omega) (inL_mem hin hmem) hv
      rcases vT_form v with ⟨ea, eb, e⟩ | ⟨ea, eb, e⟩ <;> rw [e] at hc ⊢ <;> (conv => whnf) <;>
        refine .inr ⟨[0], _, _, _, hc, ⟨rfl, ⟨rfl, trivial⟩, rfl, rfl, tk_in rfl⟩, ?_⟩ <;> (conv => whnf)
      all_goals rfl
    | some b =>
      have hbs := enV_len hv
      have hc := (ih v hmem).1 (base ++ pre) b (by rw [List.length_append]; omega) (inL_mem hin hmem) hv
      rcases vT_form v with ⟨ea, eb, e⟩ | ⟨ea, eb, e⟩ <;> rw [e] at hc ⊢ <;> (conv => whnf) <;>
        refine .inl ⟨[0], _, _, _, _, tkM (base ++ pre ++ b), _, hc, ⟨rfl, ⟨rfl, trivial⟩, rfl, rfl, tk_in rfl, rfl, rfl, tk_out 0 _ _⟩, ?_⟩ <;> (conv => whnf) <;>
        (refine Nx.intro ⟨(j + 1, pre ++ b), by dsimp only; omega, by dsimp only; rw [List.length_append]; omega, enL_step g3 hv⟩ (by dsimp only; omega) ?_) <;>
        dsimp only <;> rw [← List.append_assoc] <;>
        (refine Wk.intro [] rfl (fun p hp => by cases hp) ⟨.same rfl (by exact rfl), .same rfl trivial, .same rfl trivial, .same (congrArg i64 ?_) trivial, trivial⟩ ⟨⟨rfl, .inl ⟨rfl, trivial⟩⟩, trivial⟩) <;>
        (rw [wrap_i64 _ (by omega) (by omega)]; rfl)
  · obtain rfl : j = l.length := by have := of_decide_eq_false h1; omega
    rw [List.drop_length, enL] at g3
    rw [g3] at h
    cases h
theorem put_law : ∀ v : Val, PutOk v ∧ PutNo v
  | .num n => ⟨put_num n, fun acc _ _ h => by rw [enV] at h; cases h⟩
  | .txt s => ⟨put_txt s, fun acc _ _ h => by rw [enV] at h; cases h⟩
  | .bad => ⟨(fun acc out _ _ h => by rw [enV] at h; cases h), put_bad⟩
  | .lst l =>
    have ih : ∀ v ∈ l, PutOk v ∧ PutNo v := fun v hv => put_law v
    ⟨put_lst l ih, put_nol l ih⟩
termination_by v => SizeOf.sizeOf v
decreasing_by
  have := List.sizeOf_lt_of_mem hv
  simp only [Val.lst.sizeOf_spec]
  omega

/-- The first bytes, put behind none. -/
theorem put_ok0 (v : Val) (out : List UInt8) (hs : szV v ≤ 1000000000) (hin : inV v) (h : enV v = some out) :
    FCm Try.prog 23 [.lit (.slice none 0 0), vT v] [] 0 (.sl (some 0) 1 (bytesR out)) (tkM out) :=
  FCe.nil ((put_law v).1 [] out (by rw [List.length_nil]; omega) hin h)
theorem put_no0 (v : Val) (hs : szV v ≤ 1000000000) (hin : inV v) (h : enV v = none) :
    FCx Try.prog 23 [.lit (.slice none 0 0), vT v] [] 0 (flt 4) :=
  FCe.nil ((put_law v).2 [] (by rw [List.length_nil]; omega) hin h)
end Go.AW.Wir
