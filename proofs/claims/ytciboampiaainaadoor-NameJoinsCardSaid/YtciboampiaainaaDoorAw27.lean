/- Rows of three numbers, compared. -/
import Derived.Test.YtciboampiaainaaDoorAw26
import Derived.ChangeKeysEq
import Derived.Laws.StructEq
set_option linter.unusedVariables false
set_option linter.unusedSimpArgs false
namespace Go.AW
open Go
section
variable {P : Program} (w : World)
def iv (n : Int) : Value := .int .i64 n
theorem run_part_int {e : TypeId} (he : P.underlying e = some (.int .i64)) (xs : Array Value) (i : Nat) (v : Value) (h : xs[i]? = some v) : (part e xs i).run P w = .ok v w := by
  unfold part
  have : isAggD (.int .i64) = false := rfl
  simp only [Sem.run_bind, run_isAggD he, this, Result.andThen_ok, Bool.false_eq_true, if_false, h]
  rfl
theorem eq_arr3 {t e : TypeId} {i : TypeInfo} (hu : P.underlying t = some (.array 3 e)) (hi : P.info? e = some i) (hsz : P.cellsOf e = 1) (he : P.underlying e = some (.int .i64)) (a b c a' b' c' : Int) :
    (Op.equal t (.agg #[iv a, iv b, iv c]) (.agg #[iv a', iv b', iv c'])).run P w = .ok (a == a' && (b == b' && c == c')) w := by
  unfold Op.equal
  show (Op.equalIn (9999 + 1) t _ _).run P w = _
  rw [run_equalIn_array w 9999 _ _ hu hi]
  rw [hsz]
  have r3 : List.range 3 = [0, 1, 2] := rfl
  rw [r3]
  have q : ∀ x y : Int, (Op.equalIn 9999 e (iv x) (iv y)).run P w = .ok (x == y) w := fun x y => run_equalIn_int w 9998 e .i64 .i64 x y he
  have p0 : ∀ x y z : Int, (part e #[iv x, iv y, iv z] 0).run P w = .ok (iv x) w := fun x y z => run_part_int w he _ _ _ rfl
  have p1 : ∀ x y z : Int, (part e #[iv x, iv y, iv z] 1).run P w = .ok (iv y) w := fun x y z => run_part_int w he _ _ _ rfl
  have p2 : ∀ x y z : Int, (part e #[iv x, iv y, iv z] 2).run P w = .ok (iv z) w := fun x y z => run_part_int w he _ _ _ rfl
  simp only [Op.eqItems, Nat.mul_one, Sem.run_bind, p0, p1, p2, Result.andThen_ok, q]
  cases e1 : a == a' <;> cases e2 : b == b' <;> cases e3 : c == c' <;> simp [Op.eqItems, p0, p1, p2, q, e1, e2, e3]

abbrev V := Int × Int × Int
def vR (v : V) : List T := [i64 v.1, i64 v.2.1, i64 v.2.2]
def vT (v : V) : T := .agg (vR v)
def vV (v : V) : List Value := [iv v.1, iv v.2.1, iv v.2.2]
theorem vR_vV (v : V) : vR v = (vV v).map .lit := rfl
def eqV (a b : V) : Bool := a.1 == b.1 && (a.2.1 == b.2.1 && a.2.2 == b.2.2)
theorem eqV_iff {a b : V} : eqV a b = true ↔ a = b := by
  obtain ⟨a1, a2, a3⟩ := a
  obtain ⟨b1, b2, b3⟩ := b
  simp [eqV]
theorem eqV_self (a : V) : eqV a a = true := eqV_iff.2 rfl
theorem guard_no {t : TypeId} (hg : P.eqGuardType P.depth t = false) (op : BinOp) (ox oy : Operand) (xs ys : Array Value) : (eqGuard op t ox oy (.agg xs) (.agg ys)).run P w = .ok () w := by
  unfold eqGuard
  cases op <;> simp [hg]

/-- Two such rows, compared. -/
theorem pure_eq3 {t e : TypeId} {i : TypeInfo} (hu : P.underlying t = some (.array 3 e)) (hi : P.info? e = some i) (hsz : P.cellsOf e = 1) (he : P.underlying e = some (.int .i64)) (hg : P.eqGuardType P.depth t = false) (ox oy : Operand) (a b : V) {K : T → Prop} (h : K (tb (eqV a b))) :
    pureA P (do eqGuard .eql t ox oy (.agg (vV a).toArray) (.agg (vV b).toArray); binOp .eql t (.agg (vV a).toArray) (.agg (vV b).toArray)) K := by
  refine ⟨.bool (eqV a b), fun w => ?_, h⟩
  have := eq_arr3 w hu hi hsz he a.1 a.2.1 a.2.2 b.1 b.2.1 b.2.2
  simp only [Sem.run_bind, guard_no w hg, Result.andThen_ok]
  show ((do pure (.bool (← Op.equal t _ _)) : Sem Value)).run P w = _
  simp only [Sem.run_bind]
  rw [show (Op.equal t (.agg (vV a).toArray) (.agg (vV b).toArray)).run P w = _ from this]
  rfl
theorem pure_ne3 {t e : TypeId} {i : TypeInfo} (hu : P.underlying t = some (.array 3 e)) (hi : P.info? e = some i) (hsz : P.cellsOf e = 1) (he : P.underlying e = some (.int .i64)) (hg : P.eqGuardType P.depth t = false) (ox oy : Operand) (a b : V) {K : T → Prop} (h : K (tb (!eqV a b))) :
    pureA P (do eqGuard .neq t ox oy (.agg (vV a).toArray) (.agg (vV b).toArray); binOp .neq t (.agg (vV a).toArray) (.agg (vV b).toArray)) K := by
  refine ⟨.bool (!eqV a b), fun w => ?_, h⟩
  have := eq_arr3 w hu hi hsz he a.1 a.2.1 a.2.2 b.1 b.2.1 b.2.2
  simp only [Sem.run_bind, guard_no w hg, Result.andThen_ok]
  show ((do pure (.bool (!(← Op.equal t _ _))) : Sem Value)).run P w = _
  simp only [Sem.run_bind]
  rw [show (Op.equal t (.agg (vV a).toArray) (.agg (vV b).toArray)).run P w = _ from this]
  rfl
end
end Go.AW
