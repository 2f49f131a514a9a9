import Derived.Test.YtmobiphgmdigjaaAw27
/- Structs of numbers, texts and rows of numbers, compared. -/
set_option linter.unusedVariables false
set_option linter.unusedSimpArgs false
namespace Go.AW
open Go
section
variable {P : Program} (w : World)
theorem run_part_one {e : TypeId} {v : Value} {d : TypeDesc} (he : P.underlying e = some d) (hd : isAggD d = false) {xs : Array Value} {i : Nat} (h : xs[i]? = some v) : (part e xs i).run P w = .ok v w := by
  unfold part
  simp only [Sem.run_bind, run_isAggD he, hd, Result.andThen_ok, Bool.false_eq_true, if_false, h]
  rfl
theorem run_part_arr {t e : TypeId} {n : Nat} {i : TypeInfo} (hu : P.underlying t = some (.array n e)) (hi : P.info? t = some i) (xs : Array Value) (o : Nat) :
    (part t xs o).run P w = .ok (.agg (xs.extract o (o + P.cellsOf t))) w := by
  unfold part
  have hd : isAggD (.array n e) = true := rfl
  simp only [Sem.run_bind, run_isAggD hu, hd, Result.andThen_ok, if_true, run_sizeOf w hi]
  rfl
theorem eqf {f : Field} {fs : List Field} {d : Nat} {xs ys : Array Value} {a b : Value} {r s : Bool} (hn : f.name ≠ "_") (ha : (part f.type xs f.offset).run P w = .ok a w) (hb : (part f.type ys f.offset).run P w = .ok b w)
    (he : (Op.equalIn d f.type a b).run P w = .ok r w) (hs : (Op.eqFields d xs ys fs).run P w = .ok s w) : (Op.eqFields d xs ys (f :: fs)).run P w = .ok (r && s) w := by
  simp only [Op.eqFields, if_pos hn, Sem.run_bind, ha, hb, he, Result.andThen_ok]
  cases r
  · rfl
  · simpa using hs
theorem eqf_nil {d : Nat} {xs ys : Array Value} : (Op.eqFields d xs ys []).run P w = .ok true w := rfl
theorem pure_eqS {t : TypeId} {fs : Array Field} (hu : P.underlying t = some (.struct fs)) (hp : P.stoodInHeld t = false) (hg : P.eqGuardType P.depth t = false) (ox oy : Operand) (xs ys : List Value) {r : Bool}
    (h : ∀ w, (Op.eqFields 9999 xs.toArray ys.toArray fs.toList).run P w = .ok r w) {K : T → Prop} (hK : K (tb r)) :
    pureA P (do eqGuard .eql t ox oy (.agg xs.toArray) (.agg ys.toArray); binOp .eql t (.agg xs.toArray) (.agg ys.toArray)) K := by
  have hf : P.fieldsOf t = fs := by unfold Program.fieldsOf; rw [hu]
  refine ⟨.bool r, fun w => ?_, hK⟩
  simp only [Sem.run_bind, run_eqGuard_agg w .eql t ox oy _ _ hg, Result.andThen_ok]
  rw [run_eql_struct, run_equalIn_struct w 9999 t _ _ (by rw [hf]; exact hu) hp, hf, h w]
  rfl
theorem pure_neS {t : TypeId} {fs : Array Field} (hu : P.underlying t = some (.struct fs)) (hp : P.stoodInHeld t = false) (hg : P.eqGuardType P.depth t = false) (ox oy : Operand) (xs ys : List Value) {r : Bool}
    (h : ∀ w, (Op.eqFields 9999 xs.toArray ys.toArray fs.toList).run P w = .ok r w) {K : T → Prop} (hK : K (tb (!r))) :
    pureA P (do eqGuard .neq t ox oy (.agg xs.toArray) (.agg ys.toArray); binOp .neq t (.agg xs.toArray) (.agg ys.toArray)) K := by
  have hf : P.fieldsOf t = fs := by unfold Program.fieldsOf; rw [hu]
  refine ⟨.bool (!r), fun w => ?_, hK⟩
  simp only [Sem.run_bind, run_eqGuard_agg w .neq t ox oy _ _ hg, Result.andThen_ok]
  rw [run_neq_struct, run_equalIn_struct w 9999 t _ _ (by rw [hf]; exact hu) hp, hf, h w]
  rfl
theorem eq_vec {t e : TypeId} {i : TypeInfo} {d : Nat} (hu : P.underlying t = some (.array 3 e)) (hi : P.info? e = some i) (hsz : P.cellsOf e = 1) (he : P.underlying e = some (.int .i64)) (a b : V) :
    (Op.equalIn (d + 2) t (.agg (vV a).toArray) (.agg (vV b).toArray)).run P w = .ok (eqV a b) w := by
  obtain ⟨a1, a2, a3⟩ := a
  obtain ⟨b1, b2, b3⟩ := b
  show (Op.equalIn (d + 1 + 1) t (.agg #[iv a1, iv a2, iv a3]) (.agg #[iv b1, iv b2, iv b3])).run P w = _
  rw [run_equalIn_array w (d + 1) _ _ hu hi]
  rw [hsz]
  have r3 : List.range 3 = [0, 1, 2] := rfl
  rw [r3]
  have q : ∀ x y : Int, (Op.equalIn (d + 1) e (iv x) (iv y)).run P w = .ok (x == y) w := fun x y => run_equalIn_int w d e .i64 .i64 x y he
  have p0 : ∀ x y z : Int, (part e #[iv x, iv y, iv z] 0).run P w = .ok (iv x) w := fun x y z => run_part_int w he _ _ _ rfl
  have p1 : ∀ x y z : Int, (part e #[iv x, iv y, iv z] 1).run P w = .ok (iv y) w := fun x y z => run_part_int w he _ _ _ rfl
  have p2 : ∀ x y z : Int, (part e #[iv x, iv y, iv z] 2).run P w = .ok (iv z) w := fun x y z => run_part_int w he _ _ _ rfl
  simp only [Op.eqItems, Nat.mul_one, Sem.run_bind, p0, p1, p2, Result.andThen_ok, q]
  unfold eqV
  cases e1 : a1 == b1 <;> cases e2 : a2 == b2 <;> cases e3 : a3 == b3 <;> simp [Op.eqItems, p0, p1, p2, q, e1, e2, e3]
end
end Go.AW

/- A deferred call: the state behind it, told anew (numbers forced). -/
set_option linter.unusedVariables false
set_option linter.unusedSimpArgs false
namespace Go.AW
open Go
def defQ2 (P : Program) (fn : Func) (g : FuncId) (ks : Nat) (caps : List Operand) (rest : Code) (o : T) (e : Ex) (s : S) : Prop :=
  match e with
  | .normal => match s with
    | ⟨t, m, n, x, r⟩ => chk ((caps.map (ev t)).all (ltB (kOf r))) <| putD t n (some ks) (.clo g (caps.map (ev t))) fun t' => forceNat x fun x => awp P rest (retD P fn g (caps.map (ev t)) o) ⟨t', m, n, x, r⟩
  | _ => False
theorem defQ2_eq (P : Program) (fn : Func) (g : FuncId) (ks : Nat) (caps : List Operand) (rest : Code) (o : T) : defQ2 P fn g ks caps rest o = defQ P fn g ks caps rest o := by
  funext e s
  cases e with
  | normal => obtain ⟨t, m, n, x, r⟩ := s; simp only [defQ2, defQ, forceNat_eq]
  | _ => rfl
theorem FCv_of_defer2 {P : Program} {f g : FuncId} {fn gn : Func} {r0 rest : Code} {rid : Nat} {mk df : Oper} {caps : Array Operand} {at' : Array TypeId} {ks : Nat} {ts : List T} {o : T}
    (hf : P.funcs[f]? = some fn) (hb : fn.body = some (.seq r0 (.seq (.region rid #[mk, df] false) rest))) (hmk : mk.op = .makeFunc (.func g) #[] caps) (hms : mk.dst = some ks) (hmg : mk.guard = none)
    (hdf : df.op = .defer { callee := .value (.tmp ks), args := #[], argTypes := at' }) (hds : df.dst = none) (hdg : df.guard = none)
    (hgf : P.funcs[g]? = some gn) (hgb : gn.body.isSome = true) (hgn : (!(gn.name == "runtime.NumGoroutine")) = true)
    (hn : ts.length ≤ fn.ntmps) (rl : List Nat)
    (h : awp P r0 (defQ2 P fn g ks caps.toList rest o) ⟨initL 0 ts, [], fn.ntmps, 0, rl⟩) : FCv P f ts o := by
  rw [defQ2_eq] at h
  exact FCv_of_defer hf hb hmk hms hmg hdf hds hdg hgf hgb hgn hn rl h
end Go.AW
