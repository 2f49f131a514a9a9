import Derived.Test.YtmobiphgmdigjaaAw3
/- Soundness of the operations on values. -/
set_option linter.unusedVariables false
set_option linter.unusedSimpArgs false
namespace Go.AW
open Go

section
variable {P : Program} {X : Xs} {W : Nat → Prop} {pl : Pl} {w : World}

theorem VRel.lit_inv {v v' : Value} (h : VRel X pl w (.lit v) v') : v' = v := by cases h; rfl
theorem BRel.lit_inv {v v' : Value} (h : BRel X w (.lit v) v') : v' = v := by cases h; rfl

theorem ofV_ok (v : Value) : VRel X pl w (ofV v) v := by
  unfold ofV
  split
  · rename_i cs
    have := VRel.agg (X := X) (pl := pl) (w := w) (cs.toList.map T.lit) cs.toList (by simp) (by
      intro i t v ht hv
      simp only [List.getElem?_map, hv, Option.map_some, Option.some.injEq] at ht
      subst ht; exact .lit v)
    simpa using this
  · exact .lit v

def EnvOk (X : Xs) (pl : Pl) (w : World) (ρ : List (Nat × T)) (a : Act) : Prop := ∀ i, VRel X pl w (look ρ i) (a.tmps.getD i undef)

theorem ev_ok {ρ : List (Nat × T)} {a : Act} (h : EnvOk X pl w ρ a) (x : Operand) : VRel X pl w (ev ρ x) (a.eval x) := by
  cases x with
  | tmp t => exact h t
  | const v => exact ofV_ok v
  | global g => exact .dead _
  | func f => exact .clo f [] [] rfl (by simp)

/-- What an operation without effect comes to. -/
def PureOk (P : Program) (X : Xs) (pl : Pl) (w : World) (f : Sem Value) (K : T → Prop) : Prop :=
  ∃ v t, f.run P w = .ok v w ∧ K t ∧ VRel X pl w t v

theorem PureOk.mk {f : Sem Value} {K : T → Prop} (v : Value) (t : T) (h : f.run P w = .ok v w) (hK : K t) (hv : VRel X pl w t v) : PureOk P X pl w f K := ⟨v, t, h, hK, hv⟩

theorem bitsI_run (op : BinOp) (h : op = .and ∨ op = .or ∨ op = .xor ∨ op = .andNot) (k : IntKind) (a b : Int) :
    (Op.intBits op k a b).run P w = .ok (.int k (bitsI op k a b)) w := by
  rcases h with rfl | rfl | rfl | rfl <;> simp [Op.intBits, bitsI]

theorem eqGuard_lit (op : BinOp) (ty : TypeId) (ox oy : Operand) (x y : Value) (h : ∀ c, x ≠ .agg c) (h' : x ≠ .nilIface) :
    (eqGuard op ty ox oy x y).run P w = .ok () w := by
  unfold eqGuard
  cases op <;> simp <;> (split <;> simp_all)

theorem intA_ok (op : BinOp) (k : IntKind) (a b : Int) (ty : TypeId) (ox oy : Operand) (K : T → Prop) (h : intA op k a b K) :
    PureOk P X pl w (do eqGuard op ty ox oy (.int k a) (.int k b); binOp op ty (.int k a) (.int k b)) K := by
  have hg := eqGuard_lit (P := P) (w := w) op ty ox oy (.int k a) (.int k b) (by simp) (by simp)
  cases op <;> simp only [intA] at h
  case add => exact .mk _ _ (by simp [hg, binOp, Op.intArith]) h (.lit _)
  case sub => exact .mk _ _ (by simp [hg, binOp, Op.intArith]) h (.lit _)
  case mul => exact .mk _ _ (by simp [hg, binOp, Op.intArith]) h (.lit _)
  case quo => exact .mk _ _ (by simp [hg, binOp, Op.intDiv, h.1]) h.2 (.lit _)
  case rem => exact .mk _ _ (by simp [hg, binOp, Op.intDiv, h.1]) h.2 (.lit _)
  case and => exact .mk _ _ (by simp [hg, binOp, bitsI_run]) h (.lit _)
  case or => exact .mk _ _ (by simp [hg, binOp, bitsI_run]) h (.lit _)
  case xor => exact .mk _ _ (by simp [hg, binOp, bitsI_run]) h (.lit _)
  case andNot => exact .mk _ _ (by simp [hg, binOp, bitsI_run]) h (.lit _)
  case eql => exact .mk _ _ (by simp [hg, binOp, Op.intCmp]) h (.lit _)
  case neq => exact .mk _ _ (by simp [hg, binOp, Op.intCmp]) h (.lit _)
  case lss => exact .mk _ _ (by simp [hg, binOp, Op.intCmp]) h (.lit _)
  case leq => exact .mk _ _ (by simp [hg, binOp, Op.intCmp]) h (.lit _)
  case gtr => exact .mk _ _ (by simp [hg, binOp, Op.intCmp]) h (.lit _)
  case geq => exact .mk _ _ (by simp [hg, binOp, Op.intCmp]) h (.lit _)

theorem strA_ok (op : BinOp) (a b : ByteArray) (ty : TypeId) (ox oy : Operand) (K : T → Prop) (h : strA op a b K) :
    PureOk P X pl w (do eqGuard op ty ox oy (.string a) (.string b); binOp op ty (.string a) (.string b)) K := by
  have hg := eqGuard_lit (P := P) (w := w) op ty ox oy (.string a) (.string b) (by simp) (by simp)
  cases op <;> simp only [strA] at h
  case add =>
    refine .mk _ _ ?_ h.2 (.lit _)
    have h1 := h.1
    simp [hg, binOp, Op.stringOp]
    omega
  case eql => exact .mk _ _ (by simp [hg, binOp, Op.stringOp]) h (.lit _)
  case neq => exact .mk _ _ (by simp [hg, binOp, Op.stringOp]) h (.lit _)
  case lss => exact .mk _ _ (by simp [hg, binOp, Op.stringOp]) h (.lit _)
  case leq => exact .mk _ _ (by simp [hg, binOp, Op.stringOp]) h (.lit _)
  case gtr => exact .mk _ _ (by simp [hg, binOp, Op.stringOp]) h (.lit _)
  case geq => exact .mk _ _ (by simp [hg, binOp, Op.stringOp]) h (.lit _)

theorem VRel.agg_inv {ts : List T} {v : Value} (h : VRel X pl w (.agg ts) v) : ∃ vs : List Value, v = .agg vs.toArray ∧ ts.length = vs.length ∧
    ∀ (i : Nat) (t : T) (v : Value), ts[i]? = some t → vs[i]? = some v → VRel X pl w t v := by
  cases h with
  | agg _ vs hl h => exact ⟨vs, rfl, hl, h⟩

theorem map_lit_inv {vs : List Value} {v : Value} (h : VRel X pl w (.agg (vs.map .lit)) v) : v = .agg vs.toArray := by
  obtain ⟨us, rfl, hl, hc⟩ := h.agg_inv
  congr 2
  apply List.ext_getElem?
  intro i
  cases hv : vs[i]? with
  | none =>
    have : us.length ≤ i := by rw [← hl]; simpa using hv
    simpa using this
  | some x =>
    have hi : i < us.length := by rw [← hl]; simpa using (List.getElem?_eq_some_iff.1 hv).1
    have h2 := hc i (.lit x) us[i] (by simp [hv]) (by simp [hi])
    rw [List.getElem?_eq_getElem hi, h2.lit_inv]

theorem eq_ptr_nil (d : Nat) (t e : TypeId) (a : Addr) (hu : P.underlying t = some (.pointer e)) : (Op.equalIn (d + 1) t (.pointer (some a)) (.pointer none)).run P w = .ok false w := by
  simp only [Op.equalIn, Sem.run_bind, run_underlying hu, Result.andThen_ok, Sem.run_pure]
theorem eq_nil_nil (d : Nat) (t e : TypeId) (hu : P.underlying t = some (.pointer e)) : (Op.equalIn (d + 1) t (.pointer none) (.pointer none)).run P w = .ok true w := by
  simp only [Op.equalIn, Sem.run_bind, run_underlying hu, Result.andThen_ok, Sem.run_pure, Option.isNone_none]

theorem binA_ok (op : BinOp) (ty : TypeId) (ox oy : Operand) (x y : T) (vx vy : Value) (hx : VRel X pl w x vx) (hy : VRel X pl w y vy) (K : T → Prop) (h : binA P op ty ox oy x y K) :
    PureOk P X pl w (do eqGuard op ty ox oy vx vy; binOp op ty vx vy) K := by
  unfold binA at h
  split at h
  · obtain rfl := hx.lit_inv
    obtain rfl := hy.lit_inv
    rename_i k a k' b
    have hg := eqGuard_lit (P := P) (w := w) op ty ox oy (.int k a) (.int k' b) (by simp) (by simp)
    split at h
    · obtain ⟨h0, h⟩ := h
      have h0' : ¬ b < 0 := by omega
      exact .mk _ _ (by simp [hg, binOp, Op.shift, h0']) h (.lit _)
    · obtain ⟨h0, h⟩ := h
      have h0' : ¬ b < 0 := by omega
      exact .mk _ _ (by simp [hg, binOp, Op.shift, h0']) h (.lit _)
    · obtain ⟨hk, h2⟩ := chk_elim h
      obtain rfl := sameK_eq hk
      exact intA_ok _ k a b ty ox oy K h2
  · obtain rfl := hx.lit_inv
    obtain rfl := hy.lit_inv
    obtain ⟨hk, h2⟩ := chk_elim h
    exact strA_ok op _ _ ty ox oy K h2
  · obtain rfl := hx.lit_inv
    obtain rfl := hy.lit_inv
    rename_i a b
    have hg := eqGuard_lit (P := P) (w := w) op ty ox oy (.bool a) (.bool b) (by simp) (by simp)
    split at h
    · rename_i hu
      exact .mk _ _ (by simp [hg, binOp, Op.equal, Op.maxDepth, run_equalIn_bool' w _ _ _ _ hu]) h (.lit _)
    · rename_i hu
      exact .mk _ _ (by simp [hg, binOp, Op.equal, Op.maxDepth, run_equalIn_bool' w _ _ _ _ hu]) h (.lit _)
    · exact h.elim
  · obtain ⟨vs, us, rfl, rfl, v, hr, hK⟩ := h
    obtain rfl := map_lit_inv hx
    obtain rfl := map_lit_inv hy
    exact .mk _ _ (hr w) hK (.lit _)
  · obtain rfl := hy.lit_inv
    cases hx
    rename_i id row off b sz hb
    have hg := eqGuard_lit (P := P) (w := w) op ty ox oy (.pointer (some ⟨b, row * sz + off, none⟩)) (.pointer none) (by simp) (by simp)
    split at h
    · rename_i hu
      exact .mk _ _ (by simp only [Sem.run_bind, hg, Result.andThen_ok, binOp, Op.equal, Op.maxDepth, eq_ptr_nil _ _ _ _ hu, Sem.run_pure, Bool.not_false, Bool.not_true]) h (.lit _)
    · rename_i hu
      exact .mk _ _ (by simp only [Sem.run_bind, hg, Result.andThen_ok, binOp, Op.equal, Op.maxDepth, eq_ptr_nil _ _ _ _ hu, Sem.run_pure, Bool.not_false, Bool.not_true]) h (.lit _)
    · exact h.elim
  · obtain rfl := hx.lit_inv
    obtain rfl := hy.lit_inv
    have hg := eqGuard_lit (P := P) (w := w) op ty ox oy (.pointer none) (.pointer none) (by simp) (by simp)
    split at h
    · rename_i hu
      exact .mk _ _ (by simp only [Sem.run_bind, hg, Result.andThen_ok, binOp, Op.equal, Op.maxDepth, eq_nil_nil _ _ _ hu, Sem.run_pure, Bool.not_false, Bool.not_true]) h (.lit _)
    · rename_i hu
      exact .mk _ _ (by simp only [Sem.run_bind, hg, Result.andThen_ok, binOp, Op.equal, Op.maxDepth, eq_nil_nil _ _ _ hu, Sem.run_pure, Bool.not_false, Bool.not_true]) h (.lit _)
    · exact h.elim
  · exact h.elim

theorem unA_ok (op : UnOp) (x : T) (vx : Value) (hx : VRel X pl w x vx) (K : T → Prop) (h : unA op x K) : PureOk P X pl w (Op.unary op vx) K := by
  unfold unA at h
  split at h
  · obtain rfl := hx.lit_inv
    exact .mk _ _ (by simp [Op.unary, Op.intArith]) h (.lit _)
  · obtain rfl := hx.lit_inv
    exact .mk _ _ (by simp [Op.unary, bitsI_run]) h (.lit _)
  · obtain rfl := hx.lit_inv
    exact .mk _ _ (by simp [Op.unary]) h (.lit _)
  · exact h.elim

end
end Go.AW
