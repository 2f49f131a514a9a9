import Derived.Test.YtmobiphgmdigjaaMaiI19
import Derived.Test.YtmobiphgmdigjaaMaiI16
import Derived.Test.YtmobiphgmdigjaaMaiM1
import Derived.Test.YtmobiphgmdigjaaCmdP1
import Derived.Test.YtmobiphgmdigjaaMaiV2
import Derived.Test.YtmobiphgmdigjaaAw32
/- What several layers use: names, vectors, items of each kind; walked. -/
set_option linter.unusedVariables false
set_option linter.unusedSimpArgs false
namespace Go.AW.Cm
open Go Go.AW Go.AW.Wir Go.Proofs
set_option maxRecDepth 10000
set_option pp.maxSteps 60

theorem vmay_law (v : V) : FCv Try.prog 53 [vT v] (tb (mayV v)) := Vec.may_law v
abbrev ts (l : List UInt8) : T := .lit (.string ⟨l.toArray⟩)
theorem rvmay_law (v : V) : FCv Try.prog 55 [vT v] (tb (mayV v)) := by
  obtain ⟨x, y, z⟩ := v
  obtain ⟨R, hR⟩ : ∃ R, mayV (x, y, z) = R := ⟨_, rfl⟩
  rw [hR]
  have hm : mayV (x, y, z) = (decide (0 ≤ x) && decide (0 ≤ y) && decide (0 ≤ z)) := rfl
  rw [hR] at hm
  change FCv _ _ [.agg [i64 x, i64 y, i64 z]] (tb R)
  refine FCv_of_awp (fn := Try.f55) (c := bodyC Try.f55) Try.func55 rfl (of_decide_eq_true rfl) [] ?_
  conv => whnf
  refine ⟨by decide, ?_⟩
  conv => whnf
  refine br_intro (fun h1 => ?_) (fun h1 => ?_) <;> (rw [h1]; conv => whnf) <;> rw [show decide (0 ≤ x) = _ from h1] at hm
  · refine ⟨by decide, ?_⟩
    conv => whnf
    refine br_intro (fun h2 => ?_) (fun h2 => ?_) <;> (rw [h2]; conv => whnf) <;> rw [show decide (0 ≤ y) = _ from h2] at hm
    · refine ⟨by decide, ?_⟩
      conv => whnf
      exact .inl (congrArg tb hm.symm)
    · exact .inl (congrArg tb hm.symm)
  · exact .inl (congrArg tb hm.symm)

theorem nmay (l : List UInt8) (hl : l.length ≤ 9223372036854775806) : FCv Try.prog 52 [ts l] (tb (Nam.may l)) := Nam.may_law l hl
theorem nrmay (l : List UInt8) (hl : l.length ≤ 9223372036854775806) : FCv Try.prog 54 [ts l] (tb (Nam.may l)) := Nam.rmay_law l hl
theorem eqPure (ox oy : Operand) (a b : V) {K : T → Prop} (h : K (tb (eqV a b))) : pureA Try.prog (do eqGuard .eql 51 ox oy (.agg (vV a).toArray) (.agg (vV b).toArray); binOp .eql 51 (.agg (vV a).toArray) (.agg (vV b).toArray)) K :=
  pure_eq3 Try.underlying51 (by rfl) (by kernel_rfl) Try.underlying2 (by kernel_rfl) ox oy a b h
theorem nePure (ox oy : Operand) (a b : V) {K : T → Prop} (h : K (tb (!eqV a b))) : pureA Try.prog (do eqGuard .neq 51 ox oy (.agg (vV a).toArray) (.agg (vV b).toArray); binOp .neq 51 (.agg (vV a).toArray) (.agg (vV b).toArray)) K :=
  pure_ne3 Try.underlying51 (by rfl) (by kernel_rfl) Try.underlying2 (by kernel_rfl) ox oy a b h

abbrev eN (n : Int) : List T := [i64 1, i64 n, ts [], .sl none 4 []]
abbrev eS (s : List UInt8) : List T := [i64 2, i64 0, ts s, .sl none 4 []]
abbrev eL (l : List (List T)) : List T := [i64 3, i64 0, ts [], .sl none 4 l]
abbrev eV (v : V) : List T := eL [eN v.1, eN v.2.1, eN v.2.2]
theorem num2 (n : Int) : FCv Try.prog 22 [i64 n] (.agg (eN n)) := num_law n
theorem str2 (s : List UInt8) : FCv Try.prog 23 [ts s] (.agg (eS s)) := str_law s
theorem row2 (l : List (List T)) : FCv Try.prog 21 [.sl none 4 l] (.agg (eL l)) := by
  refine FCv_of_awp (fn := Try.f21) (c := bodyC Try.f21) Try.func21 rfl (of_decide_eq_true rfl) [] ?_
  conv => whnf
  exact .inl rfl
theorem strD (a b : List UInt8) : (ByteArray.toList ⟨a.toArray⟩ == ByteArray.toList ⟨b.toArray⟩) = decide (a = b) := by
  rw [ByteArray.toList_eq, ByteArray.toList_eq, Bool.eq_iff_iff, beq_iff_eq, decide_eq_true_eq]
def sv (l : List UInt8) : Value := .string ⟨l.toArray⟩
section
variable (w : World)
theorem h_int (d : Nat) (a b : Int) : (Op.equalIn (d + 1) 3 (iv a) (iv b)).run Try.prog w = .ok (a == b) w := run_equalIn_int w d 3 .i64 .i64 a b Try.underlying3
theorem h_i64 (d : Nat) (a b : Int) : (Op.equalIn (d + 1) 2 (iv a) (iv b)).run Try.prog w = .ok (a == b) w := run_equalIn_int w d 2 .i64 .i64 a b Try.underlying2
theorem h_str (d : Nat) (a b : List UInt8) : (Op.equalIn (d + 1) 9 (sv a) (sv b)).run Try.prog w = .ok (decide (a = b)) w := by
  rw [← strD]
  exact run_equalIn_string w d 9 _ _ Try.underlying9
theorem h_vec (d : Nat) (a b : V) : (Op.equalIn (d + 2) 51 (.agg (vV a).toArray) (.agg (vV b).toArray)).run Try.prog w = .ok (eqV a b) w :=
  eq_vec w Try.underlying51 (by rfl) (by kernel_rfl) Try.underlying2 a b
theorem p_vec (c : List Value) (o : Nat) : (part 51 c.toArray o).run Try.prog w = .ok (.agg (c.toArray.extract o (o + 3))) w :=
  run_part_arr w Try.underlying51 (i := Try.prog.types[51]) (by rfl) c.toArray o
end
end Go.AW.Cm
