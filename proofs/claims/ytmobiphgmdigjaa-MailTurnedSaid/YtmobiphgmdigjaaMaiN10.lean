import Derived.Test.YtmobiphgmdigjaaMaiN9
/- Mails: compared, walked. -/
set_option linter.unusedVariables false
set_option linter.unusedSimpArgs false
namespace Go.AW.Ml
open Go Go.AW Go.AW.Wir Go.AW.Cm Go.Proofs
set_option maxRecDepth 40000
set_option pp.maxSteps 60

deriving instance DecidableEq for Entry
deriving instance DecidableEq for Job
deriving instance DecidableEq for Mail
def eVs (x : Entry) : List Value := [iv x.term, sv x.data]
def jVs (x : Job) : List Value := [sv x.name, sv x.tenant, iv x.v.1, iv x.v.2.1, iv x.v.2.2, sv x.node, iv x.status]
section
variable (w : World)
theorem eqf_ent (a b : Entry) : (Op.eqFields 9999 (eVs a).toArray (eVs b).toArray [{ name := "Term", type := 2, offset := 0, embedded := false, tag := "", pkgPath := "", byteOffset := 0 },
        { name := "Data", type := 9, offset := 1, embedded := false, tag := "", pkgPath := "", byteOffset := 8 }]).run Try.prog w = .ok (decide (a = b)) w := by
  have e : decide (a = b) = (a.term == b.term && (decide (a.data = b.data) && true)) := by
    rw [Bool.eq_iff_iff]
    simp only [decide_eq_true_eq, Bool.and_eq_true, beq_iff_eq, and_true]
    constructor
    · rintro rfl; exact ⟨rfl, rfl⟩
    · rintro ⟨h1, h2⟩; cases a; cases b; simp_all
  rw [e]
  refine eqf w (by decide) (run_part_one w Try.underlying2 rfl rfl) (run_part_one w Try.underlying2 rfl rfl) (h_i64 w 9998 a.term b.term) ?_
  refine eqf w (by decide) (run_part_one w Try.underlying9 rfl rfl) (run_part_one w Try.underlying9 rfl rfl) (h_str w 9998 a.data b.data) ?_
  exact eqf_nil w
theorem eqf_job (a b : Job) : (Op.eqFields 9999 (jVs a).toArray (jVs b).toArray [{ name := "Name", type := 9, offset := 0, embedded := false, tag := "", pkgPath := "", byteOffset := 0 },
        { name := "Tenant", type := 9, offset := 1, embedded := false, tag := "", pkgPath := "", byteOffset := 16 },
        { name := "V", type := 51, offset := 2, embedded := false, tag := "", pkgPath := "", byteOffset := 32 },
        { name := "Node", type := 9, offset := 5, embedded := false, tag := "", pkgPath := "", byteOffset := 56 },
        { name := "Status", type := 2, offset := 6, embedded := false, tag := "", pkgPath := "", byteOffset := 72 }]).run Try.prog w = .ok (decide (a = b)) w := by
  have e : decide (a = b) = (decide (a.name = b.name) && (decide (a.tenant = b.tenant) && (eqV a.v b.v && (decide (a.node = b.node) && (a.status == b.status && true))))) := by
    rw [Bool.eq_iff_iff]
    simp only [decide_eq_true_eq, Bool.and_eq_true, beq_iff_eq, eqV_iff, and_true]
    constructor
    · rintro rfl; exact ⟨rfl, rfl, rfl, rfl, rfl⟩
    · rintro ⟨h1, h2, h3, h4, h5⟩; cases a; cases b; simp_all
  rw [e]
  refine eqf w (by decide) (run_part_one w Try.underlying9 rfl rfl) (run_part_one w Try.underlying9 rfl rfl) (h_str w 9998 a.name b.name) ?_
  refine eqf w (by decide) (run_part_one w Try.underlying9 rfl rfl) (run_part_one w Try.underlying9 rfl rfl) (h_str w 9998 a.tenant b.tenant) ?_
  refine eqf w (by decide) (p_vec w _ 2) (p_vec w _ 2) (h_vec w 9997 a.v b.v) ?_
  refine eqf w (by decide) (run_part_one w Try.underlying9 rfl rfl) (run_part_one w Try.underlying9 rfl rfl) (h_str w 9998 a.node b.node) ?_
  refine eqf w (by decide) (run_part_one w Try.underlying2 rfl rfl) (run_part_one w Try.underlying2 rfl rfl) (h_i64 w 9998 a.status b.status) ?_
  exact eqf_nil w
end
theorem entNe (ox oy : Operand) (a b : Entry) {K : T → Prop} (h : K (tb (!decide (a = b)))) : pureA Try.prog (do eqGuard .neq 43 ox oy (.agg (eVs a).toArray) (.agg (eVs b).toArray); binOp .neq 43 (.agg (eVs a).toArray) (.agg (eVs b).toArray)) K :=
  pure_neS Try.underlying43 (by kernel_rfl) (by kernel_rfl) ox oy (eVs a) (eVs b) (fun w => eqf_ent w a b) h
theorem jobNe (ox oy : Operand) (a b : Job) {K : T → Prop} (h : K (tb (!decide (a = b)))) : pureA Try.prog (do eqGuard .neq 53 ox oy (.agg (jVs a).toArray) (.agg (jVs b).toArray); binOp .neq 53 (.agg (jVs a).toArray) (.agg (jVs b).toArray)) K :=
  pure_neS Try.underlying53 (by kernel_rfl) (by kernel_rfl) ox oy (jVs a) (jVs b) (fun w => eqf_job w a b) h
theorem same_law (m m' : Mail) (h : inM m) (h' : inM m') : FCv Try.prog 16 [.agg (mC m), .agg (mC m')] (tb (decide (m = m'))) := by
  have hno : m ≠ m' → decide (m = m') = false := fun h => decide_eq_false h
  have hyes : m = m' → decide (m = m') = true := fun h => decide_eq_true h
  obtain ⟨R, hR⟩ : ∃ R, decide (m = m') = R := ⟨_, rfl⟩
  rw [hR] at hno hyes ⊢
  obtain ⟨k, t, a, b, c, d, l, si, st, sd, j⟩ := m
  obtain ⟨k', t', a', b', c', d', l', si', st', sd', j'⟩ := m'
  obtain ⟨_, _, _, ⟨hl, _⟩, _, hj, _⟩ := h
  obtain ⟨_, _, _, ⟨hl', _⟩, _, hj', _⟩ := h'
  dsimp only at hl hj hl' hj'
  simp only [Mail.mk.injEq, ne_eq] at hno hyes
  clear hR
  unfold mC
  dsimp only
  have n1 : (l.map fun x => eC x).length = l.length := List.length_map _
  have g1 : ∀ (i : Nat) (x : Entry), l[i]? = some x → (l.map fun x => eC x)[i]? = some (eC x) := fun i x h => by rw [List.getElem?_map, h]; rfl
  obtain ⟨R1, hR1⟩ : ∃ R, (l.map fun x => eC x) = R := ⟨_, rfl⟩
  rw [hR1] at n1 g1 ⊢
  have n2 : (l'.map fun x => eC x).length = l'.length := List.length_map _
  have g2 : ∀ (i : Nat) (x : Entry), l'[i]? = some x → (l'.map fun x => eC x)[i]? = some (eC x) := fun i x h => by rw [List.getElem?_map, h]; rfl
  obtain ⟨R2, hR2⟩ : ∃ R, (l'.map fun x => eC x) = R := ⟨_, rfl⟩
  rw [hR2] at n2 g2 ⊢
  have n3 : (j.map fun x => jC x).length = j.length := List.length_map _
  have g3 : ∀ (i : Nat) (x : Job), j[i]? = some x → (j.map fun x => jC x)[i]? = some (jC x) := fun i x h => by rw [List.getElem?_map, h]; rfl
  obtain ⟨R3, hR3⟩ : ∃ R, (j.map fun x => jC x) = R := ⟨_, rfl⟩
  rw [hR3] at n3 g3 ⊢
  have n4 : (j'.map fun x => jC x).length = j'.length := List.length_map _
  have g4 : ∀ (i : Nat) (x : Job), j'[i]? = some x → (j'.map fun x => jC x)[i]? = some (jC x) := fun i x h => by rw [List.getElem?_map, h]; rfl
  obtain ⟨R4, hR4⟩ : ∃ R, (j'.map fun x => jC x) = R := ⟨_, rfl⟩
  rw [hR4] at n4 g4 ⊢
  refine FCv_of_awp (fn := Try.f16) (c := bodyC Try.f16) Try.func16 rfl (of_decide_eq_true rfl) [] ?_
  conv => whnf
  by_cases q0 : k = k'
  rotate_left
  · rw [qn q0]
    conv => whnf
    exact .inl (congrArg tb (hno (fun h => q0 h.1)).symm)
  rw [qq q0]
  conv => whnf
  by_cases q1 : t = t'
  rotate_left
  · rw [qn q1]
    conv => whnf
    exact .inl (congrArg tb (hno (fun h => q1 h.2.1)).symm)
  rw [qq q1]
  conv => whnf
  by_cases q2 : a = a'
  rotate_left
  · rw [qn q2]
    conv => whnf
    exact .inl (congrArg tb (hno (fun h => q2 h.2.2.1)).symm)
  rw [qq q2]
  conv => whnf
  by_cases q3 : b = b'
  rotate_left
  · rw [qn q3]
    conv => whnf
    exact .inl (congrArg tb (hno (fun h => q3 h.2.2.2.1)).symm)
  rw [qq q3]
  conv => whnf
  by_cases q4 : c = c'
  rotate_left
  · rw [qn q4]
    conv => whnf
    exact .inl (congrArg tb (hno (fun h => q4 h.2.2.2.2.1)).symm)
  rw [qq q4]
  conv => whnf
  by_cases q5 : d = d'
  rotate_left
  · rw [qn q5]
    conv => whnf
    exact .inl (congrArg tb (hno (fun h => q5 h.2.2.2.2.2.1)).symm)
  rw [qq q5]
  conv => whnf
  refine ⟨[iv si, iv st, sv sd], [iv si', iv st', sv sd'], rfl, rfl, snapNe _ _ si st si' st' sd sd' ?_⟩
  conv => whnf
  by_cases q6 : si = si' ∧ st = st' ∧ sd = sd'
  rotate_left
  · rw [show (si == si' && (st == st' && (decide (sd = sd') && true))) = false by rw [← Bool.not_eq_true]; simp only [Bool.and_eq_true, beq_iff_eq, decide_eq_true_eq, and_true]; exact q6]
    conv => whnf
    exact .inl (congrArg tb (hno (fun h => q6 ⟨h.2.2.2.2.2.2.2.1, h.2.2.2.2.2.2.2.2.1, h.2.2.2.2.2.2.2.2.2.1⟩)).symm)
  rw [show (si == si' && (st == st' && (decide (sd = sd') && true))) = true by simp only [Bool.and_eq_true, beq_iff_eq, decide_eq_true_eq, and_true]; exact q6]
  conv => whnf
  rw [n1, n2]
  by_cases q7 : l.length = l'.length
  rotate_left
  · rw [qn (show ¬ ((l.length : Nat) : Int) = l'.length by omega)]
    conv => whnf
    exact .inl (congrArg tb (hno (fun h => q7 (congrArg List.length h.2.2.2.2.2.2.1))).symm)
  rw [qq (show ((l.length : Nat) : Int) = l'.length by omega)]
  conv => whnf
  rw [n3, n4]
  by_cases q8 : j.length = j'.length
  rotate_left
  · rw [qn (show ¬ ((j.length : Nat) : Int) = j'.length by omega)]
    conv => whnf
    exact .inl (congrArg tb (hno (fun h => q8 (congrArg List.length h.2.2.2.2.2.2.2.2.2.2))).symm)
  rw [qq (show ((j.length : Nat) : Int) = j'.length by omega)]
  conv => whnf
  refine loop_intro (fun y : { i : Nat // i ≤ l.length ∧ l.take i = l'.take i } =>
    ⟨[(2, .ptr 0 0 0), (3, .ptr 1 0 0), (5, i64 (y.1 : Nat))], [(0, .own 11 [[i64 k, i64 t, i64 a, i64 b, i64 c, i64 d, .sl none 2 R1, i64 si, i64 st, ts sd, .sl none 7 R3]]), (1, .own 11 [[i64 k', i64 t', i64 a', i64 b', i64 c', i64 d', .sl none 2 R2, i64 si', i64 st', ts sd', .sl none 7 R4]])], 108, 2, []⟩) (fun y => l.length - y.1) ⟨0, Nat.zero_le _, rfl⟩ ?_ ?_
  · exact Wk.intro [] rfl (fun p hp => by cases hp) ⟨.same rfl (by exact rfl), .same rfl (by exact rfl), .same rfl trivial, trivial⟩ ⟨⟨rfl, .inl ⟨rfl, mail_lt _ _ _ _ _ _ _ _ _ _ _ _⟩⟩, ⟨rfl, .inl ⟨rfl, mail_lt _ _ _ _ _ _ _ _ _ _ _ _⟩⟩, trivial⟩
  rintro ⟨i, z1, z2⟩
  dsimp only at z1 z2 ⊢
  conv => whnf
  rw [n1]
  refine br_intro (fun h1 => ?_) (fun h1 => ?_) <;> (rw [h1]; conv => whnf)
  · have hlt : i < l.length := by have := of_decide_eq_true h1; omega
    refine ⟨by omega, nthK_intro (g1 i l[i] (List.getElem?_eq_getElem hlt)) ?_⟩
    conv => whnf
    refine ⟨by omega, nthK_intro (g2 i l'[i] (List.getElem?_eq_getElem (by omega))) ?_⟩
    conv => whnf
    have t1 : l.take (i + 1) = l.take i ++ [l[i]] := by rw [List.take_add_one, List.getElem?_eq_getElem hlt]; rfl
    have t2 : l'.take (i + 1) = l'.take i ++ [l'[i]] := by rw [List.take_add_one, List.getElem?_eq_getElem (by omega)]; rfl
    have t3 : l = l' → l[i] = l'[i] := fun e => by
      have h2 : l[i]? = l'[i]? := by rw [e]
      rw [List.getElem?_eq_getElem hlt, List.getElem?_eq_getElem (by omega)] at h2
      exact Option.some.inj h2
    obtain ⟨X, hX⟩ : ∃ X, l[i] = X := ⟨_, rfl⟩
    obtain ⟨Y, hY⟩ : ∃ X, l'[i] = X := ⟨_, rfl⟩
    rw [hX] at t1 t3 ⊢
    rw [hY] at t2 t3 ⊢
    refine ⟨eVs X, eVs Y, rfl, rfl, entNe _ _ X Y ?_⟩
    conv => whnf
    by_cases hXY : X = Y
    · rw [decide_eq_true hXY]
      conv => whnf
      refine Nx.intro ⟨i + 1, hlt, by rw [t1, t2, z2, hXY]⟩ (by dsimp only; omega) ?_
      exact Wk.intro [] rfl (fun p hp => by cases hp) ⟨.same rfl (by exact rfl), .same rfl (by exact rfl), .same (congrArg i64 (by rw [wrap_i64 _ (by omega) (by omega)]; rfl)) trivial, trivial⟩ ⟨⟨rfl, .inl ⟨rfl, mail_lt _ _ _ _ _ _ _ _ _ _ _ _⟩⟩, ⟨rfl, .inl ⟨rfl, mail_lt _ _ _ _ _ _ _ _ _ _ _ _⟩⟩, trivial⟩
    · rw [decide_eq_false hXY]
      conv => whnf
      exact .inl (congrArg tb (hno (fun h => hXY (t3 h.2.2.2.2.2.2.1))).symm)
  obtain rfl : i = l.length := by have := of_decide_eq_false h1; omega
  rw [List.take_length, q7, List.take_length] at z2
  have hLL := z2
  refine loop_intro (fun y : { i : Nat // i ≤ j.length ∧ j.take i = j'.take i } =>
    ⟨[(2, .ptr 0 0 0), (3, .ptr 1 0 0), (6, i64 (y.1 : Nat))], [(0, .own 11 [[i64 k, i64 t, i64 a, i64 b, i64 c, i64 d, .sl none 2 R1, i64 si, i64 st, ts sd, .sl none 7 R3]]), (1, .own 11 [[i64 k', i64 t', i64 a', i64 b', i64 c', i64 d', .sl none 2 R2, i64 si', i64 st', ts sd', .sl none 7 R4]])], 108, 2, []⟩) (fun y => j.length - y.1) ⟨0, Nat.zero_le _, rfl⟩ ?_ ?_
  · exact Wk.intro [] rfl (fun p hp => by cases hp) ⟨.same rfl (by exact rfl), .same rfl (by exact rfl), .same rfl trivial, trivial⟩ ⟨⟨rfl, .inl ⟨rfl, mail_lt _ _ _ _ _ _ _ _ _ _ _ _⟩⟩, ⟨rfl, .inl ⟨rfl, mail_lt _ _ _ _ _ _ _ _ _ _ _ _⟩⟩, trivial⟩
  rintro ⟨i, z1, z2⟩
  dsimp only at z1 z2 ⊢
  conv => whnf
  rw [n3]
  refine br_intro (fun h1 => ?_) (fun h1 => ?_) <;> (rw [h1]; conv => whnf)
  · have hlt : i < j.length := by have := of_decide_eq_true h1; omega
    refine ⟨by omega, nthK_intro (g3 i j[i] (List.getElem?_eq_getElem hlt)) ?_⟩
    conv => whnf
    refine ⟨by omega, nthK_intro (g4 i j'[i] (List.getElem?_eq_getElem (by omega))) ?_⟩
    conv => whnf
    have t1 : j.take (i + 1) = j.take i ++ [j[i]] := by rw [List.take_add_one, List.getElem?_eq_getElem hlt]; rfl
    have t2 : j'.take (i + 1) = j'.take i ++ [j'[i]] := by rw [List.take_add_one, List.getElem?_eq_getElem (by omega)]; rfl
    have t3 : j = j' → j[i] = j'[i] := fun e => by
      have h2 : j[i]? = j'[i]? := by rw [e]
      rw [List.getElem?_eq_getElem hlt, List.getElem?_eq_getElem (by omega)] at h2
      exact Option.some.inj h2
    obtain ⟨X, hX⟩ : ∃ X, j[i] = X := ⟨_, rfl⟩
    obtain ⟨Y, hY⟩ : ∃ X, j'[i] = X := ⟨_, rfl⟩
    rw [hX] at t1 t3 ⊢
    rw [hY] at t2 t3 ⊢
    refine ⟨jVs X, jVs Y, rfl, rfl, jobNe _ _ X Y ?_⟩
    conv => whnf
    by_cases hXY : X = Y
    · rw [decide_eq_true hXY]
      conv => whnf
      refine Nx.intro ⟨i + 1, hlt, by rw [t1, t2, z2, hXY]⟩ (by dsimp only; omega) ?_
      exact Wk.intro [] rfl (fun p hp => by cases hp) ⟨.same rfl (by exact rfl), .same rfl (by exact rfl), .same (congrArg i64 (by rw [wrap_i64 _ (by omega) (by omega)]; rfl)) trivial, trivial⟩ ⟨⟨rfl, .inl ⟨rfl, mail_lt _ _ _ _ _ _ _ _ _ _ _ _⟩⟩, ⟨rfl, .inl ⟨rfl, mail_lt _ _ _ _ _ _ _ _ _ _ _ _⟩⟩, trivial⟩
    · rw [decide_eq_false hXY]
      conv => whnf
      exact .inl (congrArg tb (hno (fun h => hXY (t3 h.2.2.2.2.2.2.2.2.2.2))).symm)
  obtain rfl : i = j.length := by have := of_decide_eq_false h1; omega
  rw [List.take_length, q8, List.take_length] at z2
  exact .inl (congrArg tb (hyes ⟨q0, q1, q2, q3, q4, q5, hLL, q6.1, q6.2.1, q6.2.2, z2⟩).symm)
end Go.AW.Ml

/- Mails: the first calls, and what is too large. -/
set_option linter.unusedVariables false
set_option linter.unusedSimpArgs false
namespace Go.AW.Ml
open Go Go.AW Go.AW.Wir Go.AW.Cm Go.Proofs
set_option maxRecDepth 40000
set_option pp.maxSteps 60

def bigE : List Entry → Int → Bool
  | [], _ => false
  | x :: r, n => bif decide (262144 < n + mnI x.data.length 262144) then true else bigE r (n + mnI x.data.length 262144)
def largeM (m : Mail) : Bool := decide (100 < m.l.length) || (decide (300 < m.j.length) || (decide (262144 < m.sd.length) || bigE m.l 0))
theorem gtD (n k : Nat) : decide ((n : Int) > (k : Int)) = decide (k < n) := decide_eq_decide.2 (by omega)
theorem mnI_rng (n : Nat) : 0 ≤ mnI (n : Int) 262144 ∧ mnI (n : Int) 262144 ≤ 262144 := by unfold mnI; split <;> omega
theorem large_law (m : Mail) (h : inM m) : FCv Try.prog 9 [.agg (mC m)] (tb (largeM m)) := by
  have hM : largeM m = (decide (100 < m.l.length) || (decide (300 < m.j.length) || (decide (262144 < m.sd.length) || bigE m.l 0))) := rfl
  obtain ⟨R, hR⟩ : ∃ R, largeM m = R := ⟨_, rfl⟩
  rw [hR] at hM ⊢
  clear hR
  obtain ⟨k, t, a, b, c, d, l, si, st, sd, j⟩ := m
  obtain ⟨_, _, _, ⟨hl, _⟩, _, hj, _⟩ := h
  dsimp only at hl hj hM
  unfold mC
  dsimp only
  have l1 : (l.map fun x => eC x).length = l.length := List.length_map _
  have l2 : (j.map fun x => jC x).length = j.length := List.length_map _
  have g1 : ∀ (i : Nat) (x : Entry), l[i]? = some x → (l.map fun x => eC x)[i]? = some (eC x) := fun i x h => by rw [List.getElem?_map, h]; rfl
  obtain ⟨RL, hRL⟩ : ∃ RL, (l.map fun x => eC x) = RL := ⟨_, rfl⟩
  obtain ⟨RJ, hRJ⟩ : ∃ RJ, (j.map fun x => jC x) = RJ := ⟨_, rfl⟩
  rw [hRL] at l1 g1 ⊢
  rw [hRJ] at l2 ⊢
  refine FCv_of_awp (fn := Try.f9) (c := bodyC Try.f9) Try.func9 rfl (of_decide_eq_true rfl) [] ?_
  conv => whnf
  rw [l1]
  refine br_intro (fun h1 => ?_) (fun h1 => ?_) <;> (rw [h1]; conv => whnf)
  · exact .inl (congrArg tb (by rw [hM, decide_eq_true (show 100 < l.length by have := of_decide_eq_true h1; omega)]; rfl))
  rw [decide_eq_false (show ¬ 100 < l.length by have := of_decide_eq_false h1; omega), Bool.false_or] at hM
  rw [l2]
  refine br_intro (fun h1 => ?_) (fun h1 => ?_) <;> (rw [h1]; conv => whnf)
  · exact .inl (congrArg tb (by rw [hM, decide_eq_true (show 300 < j.length by have := of_decide_eq_true h1; omega)]; rfl))
  rw [decide_eq_false (show ¬ 300 < j.length by have := of_decide_eq_false h1; omega), Bool.false_or] at hM
  rw [sizeD]
  obtain ⟨BG, hBG, hBG2⟩ : ∃ BG : Int, (262144 : Int) = BG ∧ 262144 = BG := ⟨_, rfl, rfl⟩
  refine br_intro (fun h1 => ?_) (fun h1 => ?_) <;> (rw [h1]; conv => whnf)
  · exact .inl (congrArg tb (by rw [hM, decide_eq_true (show 262144 < sd.length by have := of_decide_eq_true h1; omega)]; rfl))
  rw [decide_eq_false (show ¬ 262144 < sd.length by have := of_decide_eq_false h1; omega), Bool.false_or] at hM
  rw [l1]
  refine loop_intro (fun y : { p : Nat × Int // p.1 ≤ l.length ∧ (0 ≤ p.2 ∧ p.2 ≤ 262144) ∧ bigE l 0 = bigE (l.drop p.1) p.2 } =>
    ⟨[(1, .ptr 0 0 0), (3, i64 y.1.2), (24, i64 (l.length : Nat)), (25, i64 (y.1.1 : Nat))], [(0, .own 11 [[i64 k, i64 t, i64 a, i64 b, i64 c, i64 d, .sl none 2 RL, i64 si, i64 st, ts sd, .sl none 7 RJ]])], 41, 1, []⟩) (fun y => l.length - y.1.1) ⟨(0, 0), Nat.zero_le _, ⟨by decide, by decide⟩, rfl⟩ ?_ ?_
  · exact Wk.intro [] rfl (fun p hp => by cases hp) ⟨.same rfl (by exact rfl), .same rfl trivial, .same rfl trivial, .same rfl trivial, trivial⟩ ⟨⟨rfl, .inl ⟨rfl, mail_lt _ _ _ _ _ _ _ _ _ _ _ _⟩⟩, trivial⟩
  rintro ⟨⟨i, n⟩, z1, ⟨z2, z3⟩, z4⟩
  dsimp only at z1 z2 z3 z4 ⊢
  conv => whnf
  refine br_intro (fun h1 => ?_) (fun h1 => ?_) <;> (rw [h1]; conv => whnf)
  · have hlt : i < l.length := by have := of_decide_eq_true h1; omega
    refine ⟨by omega, nthK_intro (g1 i l[i] (List.getElem?_eq_getElem hlt)) ?_⟩
    conv => whnf
    have hdr : l.drop i = l[i] :: l.drop (i + 1) := List.drop_eq_getElem_cons hlt
    rw [hdr] at z4
    simp only [bigE] at z4
    rw [sizeD]
    obtain ⟨q1, q2⟩ := mnI_rng (l[i]).data.length
    obtain ⟨q, hq⟩ : ∃ q, mnI ((l[i]).data.length : Int) 262144 = q := ⟨_, rfl⟩
    rw [hq] at q1 q2 z4 ⊢
    rw [wrap_i64 (n + q) (by omega) (by omega)]
    obtain ⟨N, hN⟩ : ∃ N, n + q = N := ⟨_, rfl⟩
    rw [hN] at z4 ⊢
    have hlast : (262144 < N ∧ decide (N > 262144) = true) ∨ (¬ 262144 < N ∧ decide (N > 262144) = false) := by
      by_cases h : 262144 < N
      · exact .inl ⟨h, decide_eq_true h⟩
      · exact .inr ⟨h, decide_eq_false h⟩
    rcases hlast with ⟨h9, h8⟩ | ⟨h9, h8⟩
    · rw [h8]
      conv => whnf
      rw [decide_eq_true h9, cond_true] at z4
      exact .inl (congrArg tb (by rw [hM, z4]))
    · rw [h8]
      conv => whnf
      rw [decide_eq_false h9, cond_false] at z4
      refine Nx.intro ⟨(i + 1, N), hlt, ⟨by dsimp only; omega, by dsimp only; omega⟩, z4⟩ (by dsimp only; omega) ?_
      exact Wk.intro [] rfl (fun p hp => by cases hp) ⟨.same rfl (by exact rfl), .same rfl trivial, .same rfl trivial, .same (congrArg i64 (by rw [wrap_i64 _ (by omega) (by omega)]; rfl)) trivial, trivial⟩ ⟨⟨rfl, .inl ⟨rfl, mail_lt _ _ _ _ _ _ _ _ _ _ _ _⟩⟩, trivial⟩
  · obtain rfl : i = l.length := by have := of_decide_eq_false h1; omega
    rw [List.drop_length] at z4
    exact .inl (congrArg tb (by rw [hM, z4]; rfl))

def m1 : Mail := ⟨2, 1, 1, 0, 0, 0, [], 0, 0, [], []⟩
def m2 : Mail := ⟨2, 0, 2, 0, 0, 0, [], 0, 0, [], []⟩
def s1 : List UInt8 := [3, 1, 11, 1, 1, 4, 1, 1, 2, 1, 1, 2, 1, 0, 1, 0, 1, 0, 3, 0, 1, 0, 1, 0, 3, 0, 3, 0]
theorem z64 : in64 0 := ⟨by decide, by decide⟩
theorem in0 (k t a : Int) (h1 : in64 k) (h2 : in64 t) (h3 : in64 a) : inM ⟨k, t, a, 0, 0, 0, [], 0, 0, [], []⟩ :=
  ⟨h1, h2, ⟨h3, z64, z64, z64⟩, ⟨Nat.zero_le _, fun x hx => nomatch hx⟩, ⟨z64, z64, Nat.zero_le _⟩, Nat.zero_le _, fun x hx => nomatch hx⟩
theorem m1_in : inM m1 := in0 _ _ _ ⟨by decide, by decide⟩ ⟨by decide, by decide⟩ ⟨by decide, by decide⟩
theorem m2_in : inM m2 := in0 _ _ _ ⟨by decide, by decide⟩ ⟨by decide, by decide⟩ ⟨by decide, by decide⟩
theorem zero_in : inM zeroM := in0 _ _ _ ⟨by decide, by decide⟩ ⟨by decide, by decide⟩ ⟨by decide, by decide⟩
theorem m1_may : mayM m1 = true := by decide +kernel
theorem e1 : encM m1 = (s1, 0) := by
  unfold encM
  rw [if_pos m1_may]
  unfold bytesM
  rw [enc_of (okc_mail m1_may) (show enV (vI (itemM m1)) = some s1 by decide +kernel)]
theorem e2 : encM m2 = ([], 4) := by unfold encM; rw [show mayM m2 = false by decide +kernel, if_neg (by decide)]
theorem nilW {k t a b c d si st : Int} {sd : List UInt8} : le1 (.agg [i64 k, i64 t, i64 a, i64 b, i64 c, i64 d, .lit (.slice none 0 0), i64 si, i64 st, ts sd, .lit (.slice none 0 0)]) (.agg [i64 k, i64 t, i64 a, i64 b, i64 c, i64 d, .sl none 2 [], i64 si, i64 st, ts sd, .sl none 7 []]) :=
  .inr (.inr (.inr ⟨.inl rfl, .inl rfl, .inl rfl, .inl rfl, .inl rfl, .inl rfl, .inr (.inl ⟨rfl, 2, rfl⟩), .inl rfl, .inl rfl, .inl rfl, .inr (.inl ⟨rfl, 7, rfl⟩), trivial⟩))
theorem awake_law : FCv Try.prog 8 [] (tb true) := by
  have k1 := menc_law m1 m1_in
  have k2 := menc_law m2 m2_in
  have k3 := mdec_law s1 (by decide)
  have k4 := may_law m1 m1_in
  have k5 := may_law zeroM zero_in
  rw [e1] at k1
  rw [e2] at k2
  rw [encM_dec m1_in e1] at k3
  rw [m1_may] at k4
  rw [show mayM zeroM = false by decide +kernel] at k5
  have k1w : FCv Try.prog 10 [.agg [i64 2, i64 1, i64 1, i64 0, i64 0, i64 0, .lit (.slice none 0 0), i64 0, i64 0, ts [], .lit (.slice none 0 0)]] (.tup [ts s1, i64 0]) := k1.weak ⟨nilW, trivial⟩
  have k2w : FCv Try.prog 10 [.agg [i64 2, i64 0, i64 2, i64 0, i64 0, i64 0, .lit (.slice none 0 0), i64 0, i64 0, ts [], .lit (.slice none 0 0)]] (.tup [ts [], i64 4]) := k2.weak ⟨nilW, trivial⟩
  have k5w : FCv Try.prog 12 [.agg [i64 0, i64 0, i64 0, i64 0, i64 0, i64 0, .lit (.slice none 0 0), i64 0, i64 0, ts [], .lit (.slice none 0 0)]] (tb false) := k5.weak ⟨nilW, trivial⟩
  have k3w : FCv Try.prog 14 [ts s1] (.tup [.agg [i64 2, i64 1, i64 1, i64 0, i64 0, i64 0, .sl none 2 [], i64 0, i64 0, ts [], .sl none 7 []], i64 0]) := k3
  have k4w : FCv Try.prog 12 [.agg [i64 2, i64 1, i64 1, i64 0, i64 0, i64 0, .sl none 2 [], i64 0, i64 0, ts [], .sl none 7 []]] (tb true) := k4
  clear k1 k2 k3 k4 k5
  obtain ⟨S1, hS1⟩ : ∃ S, s1 = S := ⟨_, rfl⟩
  rw [hS1] at k1w k3w
  refine FCv_of_awp (fn := Try.f8) (c := bodyC Try.f8) Try.func8 rfl (of_decide_eq_true rfl) [] ?_
  conv => whnf
  refine ⟨_, k1w, ?_⟩
  conv => whnf
  refine ⟨_, k3w, ?_⟩
  conv => whnf
  refine ⟨_, k2w, ?_⟩
  conv => whnf
  rw [show (ByteArray.toList ⟨S1.toArray⟩ == ByteArray.toList ⟨#[3, 1, 11, 1, 1, 4, 1, 1, 2, 1, 1, 2, 1, 0, 1, 0, 1, 0, 3, 0, 1, 0, 1, 0, 3, 0, 3, 0]⟩) = true from by rw [← hS1]; exact beq_self_eq_true _]
  conv => whnf
  refine ⟨_, k4w, ?_⟩
  conv => whnf
  refine ⟨_, k5w, ?_⟩
  conv => whnf
  exact .inl rfl
end Go.AW.Ml

/- Mails: the laws of encoding, decoding, cutting. -/
set_option linter.unusedVariables false
set_option linter.unusedSimpArgs false
namespace Go.AW.Ml
open Go Go.AW Go.AW.Wir Go.AW.Cm Go.Proofs
set_option maxRecDepth 40000
set_option pp.maxSteps 60

theorem MailEncodes_law (m : Mail) (h : inM m) : FCv Try.prog 3 [.agg (mC m)] (tb true) := by
  have k1 := menc_law m h
  have k2 := mrenc_law m h
  have k3 := may_law m h
  have k4 := rmay_law m h
  have k5 := large_law m h
  obtain ⟨⟨b, e⟩, hE⟩ : ∃ p, encM m = p := ⟨_, rfl⟩
  obtain ⟨M, hM⟩ : ∃ p, mayM m = p := ⟨_, rfl⟩
  obtain ⟨L, hL⟩ : ∃ p, largeM m = p := ⟨_, rfl⟩
  rw [hE] at k1 k2
  rw [hM] at k3 k4
  rw [hL] at k5
  unfold mC at *
  dsimp only at k1 k2
  obtain ⟨RL, hRL⟩ : ∃ RL, (m.l.map fun x => eC x) = RL := ⟨_, rfl⟩
  obtain ⟨RJ, hRJ⟩ : ∃ RJ, (m.j.map fun x => jC x) = RJ := ⟨_, rfl⟩
  rw [hRL, hRJ] at k1 k2 k3 k4 k5 ⊢
  refine FCv_of_awp (fn := Try.f3) (c := bodyC Try.f3) Try.func3 rfl (of_decide_eq_true rfl) [] ?_
  conv => whnf
  refine ⟨_, awake_law, ?_⟩
  conv => whnf
  refine ⟨_, k5, ?_⟩
  conv => whnf
  cases L with
  | true =>
    conv => whnf
    exact .inl rfl
  | false =>
  conv => whnf
  refine ⟨_, k1, ?_⟩
  conv => whnf
  refine ⟨_, k2, ?_⟩
  conv => whnf
  refine ⟨_, k3, ?_⟩
  conv => whnf
  refine ⟨_, k4, ?_⟩
  conv => whnf
  rw [show (M == M) = true from beq_self_eq_true M]
  conv => whnf
  rw [strD, decide_eq_true rfl]
  conv => whnf
  exact .inl (congrArg tb (bq rfl))
theorem decM_in (s : List UInt8) : inM (decM s).1 := by
  rcases decM_or s with h | ⟨m, h⟩
  · rw [h]; exact zero_in
  · have h1 := (decM_item h).1
    have h2 := refM_in (gd_dec h1)
    rw [refM_item] at h2
    rw [h]
    exact h2
theorem MailDecodes_law (s : List UInt8) (hs : s.length ≤ 140737488351232) : FCv Try.prog 4 [ts s] (tb true) := by
  have k1 := mdec_law s hs
  have k2 := mrdec_law s hs
  have k3 := same_law (decM s).1 (decM s).1 (decM_in s) (decM_in s)
  obtain ⟨⟨m, e⟩, h1⟩ : ∃ p, decM s = p := ⟨_, rfl⟩
  rw [h1] at k1 k2 k3
  rw [decide_eq_true rfl] at k3
  unfold mC at *
  dsimp only at k1 k2 k3
  obtain ⟨RL, hRL⟩ : ∃ RL, (m.l.map fun x => eC x) = RL := ⟨_, rfl⟩
  obtain ⟨RJ, hRJ⟩ : ∃ RJ, (m.j.map fun x => jC x) = RJ := ⟨_, rfl⟩
  rw [hRL, hRJ] at k1 k2 k3
  refine FCv_of_awp (fn := Try.f4) (c := bodyC Try.f4) Try.func4 rfl (of_decide_eq_true rfl) [] ?_
  conv => whnf
  refine ⟨_, awake_law, ?_⟩
  conv => whnf
  rw [sizeD]
  refine br_intro (fun h1 => ?_) (fun h1 => ?_) <;> (rw [h1]; conv => whnf)
  · exact .inl rfl
  refine ⟨_, k1, ?_⟩
  conv => whnf
  refine ⟨_, k2, ?_⟩
  conv => whnf
  refine ⟨_, k3, ?_⟩
  conv => whnf
  exact .inl (congrArg tb (bq rfl))
theorem encM_cases (m : Mail) : (encM m = ([], 4) ∧ mayM m = false) ∨ ∃ s, encM m = (s, 0) := by
  unfold encM
  split
  · exact .inr ⟨_, rfl⟩
  · rename_i h; exact .inl ⟨rfl, by simpa using h⟩
theorem encM_len {m : Mail} {s : List UInt8} (h : encM m = (s, 0)) : s.length ≤ 16818176 := by
  obtain ⟨h1, rfl⟩ := encM_may h
  have := enc_len (itemM m)
  rw [encode_mail h1] at this
  exact this
/-- An encoding is read, whatever stands behind it. -/
theorem encM_more {m : Mail} {s : List UInt8} (hm : inM m) (h : encM m = (s, 0)) (r : List UInt8) : ∃ left, dec 12 4096 (s ++ r) = some (itemM m, left, r) := by
  obtain ⟨h1, rfl⟩ := encM_may h
  have he := encode_mail h1
  have h0 : (encode (itemM m)).2 = 0 := by rw [he]
  obtain ⟨ho, e, hv⟩ := enc_iff.1 h0
  rw [enc_of ho hv] at he
  have h2 : e = bytesM m := congrArg Prod.fst he
  subst h2
  exact ⟨_, enc_dec (itemM m) 12 4096 r _ (in_mail hm) ho.1 (by omega) (by have := ho.2.1; omega) ho.2.2 hv⟩
theorem encM_ne {m : Mail} {s : List UInt8} (hm : inM m) (h : encM m = (s, 0)) : 0 < s.length := by
  rcases Nat.eq_zero_or_pos s.length with h0 | h0
  · exfalso
    have : s = [] := List.length_eq_zero_iff.1 h0
    subst this
    have h1 := encM_item hm h
    have h2 : (Wir.decode []).2 = 4 := by unfold Wir.decode; rw [dec_nil]
    rw [h1] at h2
    have h3 : (0 : Int) = 4 := h2
    omega
  · exact h0
theorem cut_not {m : Mail} {s : List UInt8} (hm : inM m) (h : encM m = (s, 0)) (k : Nat) (hk : k < s.length) : decM (s.take k) = (zeroM, 4) := by
  rcases decM_or (s.take k) with h1 | ⟨m', h1⟩
  · exact h1
  · exfalso
    have h2 := decM_enc h1
    have hin := decM_in (s.take k)
    rw [h1] at hin
    obtain ⟨l1, h3⟩ := encM_more hin h2 (s.drop k)
    obtain ⟨l2, h4⟩ := encM_more hm h []
    rw [List.take_append_drop] at h3
    rw [List.append_nil, h3] at h4
    have h5 : s.drop k = [] := congrArg (fun z => z.2.2) (Option.some.inj h4)
    rw [List.drop_eq_nil_iff] at h5
    omega
theorem more_not {m : Mail} {s : List UInt8} (hm : inM m) (h : encM m = (s, 0)) (c : UInt8) : decM (s ++ [c]) = (zeroM, 4) := by
  obtain ⟨l1, h3⟩ := encM_more hm h [c]
  apply decM_e
  unfold Wir.decode
  rw [h3]
theorem MailCuts_law0 (m : Mail) (hm : inM m) (at' : Int) (ha0 : 0 ≤ at') (ha1 : at' ≤ 65535) : FCv Try.prog 6 [.agg (mC m), .lit (.int .u16 at')] (tb true) := by
  have k1 := menc_law m hm
  have k5 := large_law m hm
  obtain ⟨L, hL⟩ : ∃ p, largeM m = p := ⟨_, rfl⟩
  rw [hL] at k5
  have q1 := @cut_not m
  have q2 := @more_not m
  have q3 := @encM_ne m
  have q4 := @encM_len m
  have hc := encM_cases m
  obtain ⟨E, hE⟩ : ∃ p, encM m = p := ⟨_, rfl⟩
  rw [hE] at k1 q1 q2 q3 q4 hc
  unfold mC at k1 k5 ⊢
  obtain ⟨RL, hRL⟩ : ∃ RL, (m.l.map fun x => eC x) = RL := ⟨_, rfl⟩
  obtain ⟨RJ, hRJ⟩ : ∃ RJ, (m.j.map fun x => jC x) = RJ := ⟨_, rfl⟩
  rw [hRL, hRJ] at k1 k5 ⊢
  rcases hc with ⟨rfl, _⟩ | ⟨b, rfl⟩
  · obtain ⟨Z, hZ⟩ : ∃ Z : List UInt8, [] = Z := ⟨_, rfl⟩
    rw [hZ] at k1
    dsimp only at k1
    refine FCv_of_awp (fn := Try.f6) (c := bodyC Try.f6) Try.func6 rfl (of_decide_eq_true rfl) [] ?_
    conv => whnf
    refine ⟨_, awake_law, ?_⟩
    conv => whnf
    refine ⟨_, k5, ?_⟩
    conv => whnf
    cases L with
    | true =>
      conv => whnf
      exact .inl rfl
    | false =>
    conv => whnf
    refine ⟨_, k1, ?_⟩
    conv => whnf
    rw [emptyD, decide_eq_true hZ.symm]
    exact .inl rfl
  dsimp only at k1
  have hb0 := q3 hm rfl
  have hlen := q4 rfl
  obtain ⟨k, hk⟩ : ∃ k : Nat, (IntKind.i64.wrap at').tmod (b.length : Int) = (k : Int) := by
    rw [wrap_i64 at' (by omega) (by omega), Int.tmod_eq_emod_of_nonneg ha0]
    exact ⟨(at' % (b.length : Int)).toNat, (Int.toNat_of_nonneg (Int.emod_nonneg _ (by omega))).symm⟩
  have hkl : k < b.length := by
    have := Int.tmod_lt_of_pos (IntKind.i64.wrap at') (show (0 : Int) < b.length by omega)
    omega
  have d1 := mdec_law (b.take k) (by rw [List.length_take]; omega)
  have d2 := mdec_law (b ++ [0]) (by rw [List.length_append, List.length_singleton]; omega)
  rw [q1 hm rfl k hkl] at d1
  rw [q2 hm rfl 0] at d2
  have d1' : FCv Try.prog 14 [ts (b.take k)] (.tup [.agg [i64 0, i64 0, i64 0, i64 0, i64 0, i64 0, .sl none 2 [], i64 0, i64 0, ts [], .sl none 7 []], i64 4]) := d1
  have d2' : FCv Try.prog 14 [ts (b ++ [0])] (.tup [.agg [i64 0, i64 0, i64 0, i64 0, i64 0, i64 0, .sl none 2 [], i64 0, i64 0, ts [], .sl none 7 []], i64 4]) := d2
  clear d1 d2 q1 q2 q3 q4
  refine FCv_of_awp (fn := Try.f6) (c := bodyC Try.f6) Try.func6 rfl (of_decide_eq_true rfl) [] ?_
  conv => whnf
  refine ⟨_, awake_law, ?_⟩
  conv => whnf
  refine ⟨_, k5, ?_⟩
  conv => whnf
  cases L with
  | true =>
    conv => whnf
    exact .inl rfl
  | false =>
  conv => whnf
  refine ⟨_, k1, ?_⟩
  conv => whnf
  rw [sizeD]
  refine ⟨by omega, ?_⟩
  conv => whnf
  rw [hk]
  refine ⟨by omega, ?_⟩
  conv => whnf
  refine ⟨⟨by omega, by rw [sizeD]; omega⟩, ?_⟩
  conv => whnf
  rw [Nam.str_ext, Int.toNat_natCast, List.drop_zero, Nat.sub_zero]
  refine ⟨_, d1', ?_⟩
  conv => whnf
  refine ⟨by rw [sizeD, show ByteArray.size ⟨#[0]⟩ = 1 from rfl]; omega, ?_⟩
  conv => whnf
  rw [show (⟨b.toArray⟩ : ByteArray) ++ ⟨#[0]⟩ = ⟨(b ++ [0]).toArray⟩ from strApp b [0]]
  refine ⟨_, d2', ?_⟩
  conv => whnf
  exact .inl rfl
end Go.AW.Ml
