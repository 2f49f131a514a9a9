/- Vectors: the document's sums. -/
import Derived.Test.YtjlbhhcjghlfiaaV16
set_option linter.unusedVariables false
set_option linter.unusedSimpArgs false
namespace Go.AW.Vec
open Go Go.AW Go.Proofs
set_option maxRecDepth 10000
set_option pp.maxSteps 600
def sacc (l : List V) (r : Nat) : Nat → Bool × Nat
  | 0 => (false, 0)
  | i + 1 => addS (sacc l r i).1 (sacc l r i).2 (decide (cmp (l.getD i (0, 0, 0)) r < 0)) (cmp (l.getD i (0, 0, 0)) r).natAbs
theorem sv_of (x : Int) : sv (decide (x < 0), x.natAbs) = x := by
  unfold sv
  by_cases h : x < 0
  · rw [decide_eq_true h]; simp only [if_true]; omega
  · rw [decide_eq_false h]; simp only [Bool.false_eq_true, if_false]; omega
theorem sv_sacc (l : List V) (r : Nat) : ∀ i, sv (sacc l r i) = psum [1] l r i
  | 0 => rfl
  | i + 1 => by
    rw [sacc, sv_add, sv_of, psum]
    rw [show ([1] : List Int).getD (i % ([1] : List Int).length) 0 = 1 by rw [show i % ([1] : List Int).length = 0 from Nat.mod_one i]; rfl]
    have := sv_sacc l r i
    rw [show sv ((sacc l r i).1, (sacc l r i).2) = psum [1] l r i from this]
    omega
theorem addS_le (s : Bool) (n : Nat) (t : Bool) (k : Nat) : (addS s n t k).2 ≤ n + k := by
  unfold addS
  split
  · exact Nat.le_refl _
  · split <;> simp only <;> omega
theorem getD_ok {l : List V} (hl : ∀ v ∈ l, okV v) (i r : Nat) : okI (cmp (l.getD i (0, 0, 0)) r) := by
  rw [List.getD_eq_getElem?_getD]
  cases h : l[i]? with
  | none => exact cmp_ok zero_ok r
  | some v => exact cmp_ok (hl v (List.mem_of_getElem? h)) r
theorem sacc_le {l : List V} (hl : ∀ v ∈ l, okV v) (r : Nat) : ∀ i, (sacc l r i).2 ≤ 9223372036854775808 * i
  | 0 => by simp [sacc]
  | i + 1 => by
    have h1 := addS_le (sacc l r i).1 (sacc l r i).2 (decide (cmp (l.getD i (0, 0, 0)) r < 0)) (cmp (l.getD i (0, 0, 0)) r).natAbs
    have h2 := sacc_le hl r i
    obtain ⟨h3, h4⟩ := getD_ok hl i r
    rw [sacc]
    omega
theorem small200 {n : Nat} (h : n ≤ 9223372036854775808 * 1000000001) : n < 10 ^ 200 :=
  Nat.lt_of_le_of_lt h (Nat.lt_of_lt_of_le (show 9223372036854775808 * 1000000001 < 10 ^ 40 by decide) (Nat.pow_le_pow_right (by decide) (by decide)))

theorem rsum_law (l : List V) (hl : ∀ v ∈ l, okV v) (hlen : l.length ≤ 1000000000) :
    FCv Try.prog 22 [.sl none 3 (vRows l)] (.tup [vT (totV [1] l), i64 (totE [1] l)]) := by
  refine FCv_of_awp (fn := Try.f22) (c := bodyC Try.f22) Try.func22 rfl (of_decide_eq_true rfl) [] ?_
  conv => whnf
  refine loop_intro (fun q : {q : Fin 4 // ∀ r, r < q.val → okB (tot [1] l r) = true} => ⟨[(0, .sl none 3 (vRows l)), (2, .ptr 0 0 0), (4, .ptr 1 0 0), (5, i64 q.1.val)],
    [(0, .own 3 [vR (0, 0, 0)]), (1, .own 3 [vR (acc [1] l q.1.val)])], 43, 2, []⟩) (fun q => 3 - q.1) ⟨0, fun r h => absurd h (Nat.not_lt_zero r)⟩ ?_ ?_
  · refine Wk.intro [] rfl (fun p hp => by cases hp) ⟨.same rfl trivial, .same rfl (by exact rfl), .same rfl (by exact rfl), .same rfl trivial, trivial⟩
      ⟨⟨rfl, .inl ⟨rfl, vR_lt _ _⟩⟩, ⟨rfl, .inl ⟨rfl, vR_lt _ _⟩⟩, trivial⟩
  rintro ⟨r, hr⟩
  dsimp only
  conv => whnf
  refine br_intro (fun h => ?_) (fun h => ?_)
  · rw [h]
    have h3 : r.val < 3 := by have := of_decide_eq_true h; omega
    conv => whnf
    refine loop_intro (fun i : Fin (l.length + 1) => ⟨[(0, .sl none 3 (vRows l)), (2, .ptr 0 0 0), (4, .ptr 1 0 0), (5, i64 r.val), (6, .ptr 2 0 0), (7, i64 i.val)],
      [(0, .own 3 [vR (0, 0, 0)]), (1, .own 3 [vR (acc [1] l r.val)]), (2, .own 2 [[tb (sacc l r.val i.val).1, digT (digs (sacc l r.val i.val).2)]])], 43, 3, []⟩) (fun i => l.length - i) 0 ?_ ?_
    · refine Wk.intro [] rfl (fun p hp => by cases hp) ⟨.same rfl trivial, .same rfl (by exact rfl), .same rfl (by exact rfl), .same rfl trivial, .same rfl (by exact rfl), .same rfl trivial, trivial⟩
        ⟨⟨rfl, .inl ⟨rfl, vR_lt _ _⟩⟩, ⟨rfl, .inl ⟨rfl, vR_lt _ _⟩⟩, ⟨rfl, .inr (.inr ⟨2, _, _, rfl, rfl, ⟨⟨.same rfl trivial, .inr (.inr (.inl ⟨rfl, 1, rfl⟩)), trivial⟩, trivial⟩⟩)⟩, trivial⟩
    intro i
    conv => whnf
    refine br_intro (fun h => ?_) (fun h => ?_)
    · rw [h]
      have hi : i.val < l.length := by have := of_decide_eq_true h; rw [vRows_len] at this; omega
      have hv : l[i.val]? = some l[i.val] := List.getElem?_eq_getElem hi
      have hg : l.getD i.val (0, 0, 0) = l[i.val] := by rw [List.getD_eq_getElem?_getD, hv]; rfl
      conv => whnf
      refine ⟨by omega, nthK_intro (vRows_get hv) ?_⟩
      conv => whnf
      refine ⟨⟨by omega, by omega⟩, ?_⟩
      conv => whnf
      refine nthK_intro (vR_get l[i.val] r.val h3) ?_
      conv => whnf
      have hok := getD_ok hl i.val r.val
      rw [hg] at hok
      refine ⟨_, of_law (cmp l[i.val] r.val) hok, ?_⟩
      conv => whnf
      have hle := sacc_le hl r.val i.val
      refine ⟨_, big_add _ _ _ _ (small200 (n := (sacc l r.val i.val).2) (by omega)) (small200 (n := (cmp l[i.val] r.val).natAbs) (by obtain ⟨q1, q2⟩ := hok; omega)), ?_⟩
      conv => whnf
      refine Nx.intro ⟨i + 1, by omega⟩ (by simp only; omega) ?_
      refine Wk.intro [] rfl (fun p hp => by cases hp) ⟨.same rfl trivial, .same rfl (by exact rfl), .same rfl (by exact rfl), .same rfl trivial, .same rfl (by exact rfl), .same ?_ trivial, trivial⟩
        ⟨⟨rfl, .inl ⟨rfl, vR_lt _ _⟩⟩, ⟨rfl, .inl ⟨rfl, vR_lt _ _⟩⟩, ⟨rfl, .inl ⟨?_, bigM_lt _ _ _⟩⟩, trivial⟩
      · exact i64_cong (i64w (by simp only; omega) (by simp only; omega) (by simp only; omega))
      · show some (Blk.own 2 [[tb _, digT _]]) = some (Blk.own 2 [[tb (sacc l r.val (i.val + 1)).1, digT (digs (sacc l r.val (i.val + 1)).2)]])
        rw [sacc, hg]
    · rw [h]
      have hi : i.val = l.length := by have := of_decide_eq_false h; rw [vRows_len] at this; omega
      conv => whnf
      have hle := sacc_le hl r.val i.val
      have nl := number_law (sacc l r.val i.val).1 (sacc l r.val i.val).2 (small200 (by omega))
      have ei : sv (sacc l r.val i.val) = tot [1] l r.val := by rw [sv_sacc, hi]; rfl
      rw [show sv ((sacc l r.val i.val).1, (sacc l r.val i.val).2) = tot [1] l r.val from ei] at nl
      refine ⟨_, nl, ?_⟩
      conv => whnf
      cases hok : okB (tot [1] l r.val) with
      | false =>
        conv => whnf
        have hno := totOk_no h3 hok
        have e1 : totV [1] l = (0, 0, 0) := by unfold totV; rw [hno]; rfl
        have e2 : totE [1] l = 6 := by unfold totE; rw [hno]; rfl
        rw [e1, e2]
        exact ⟨Or.inl rfl, Or.inl rfl, trivial⟩
      | true =>
        conv => whnf
        refine ⟨⟨by omega, by omega⟩, ?_⟩
        conv => whnf
        refine chk_intro (ble_of (by show 0 + ((r.val : Nat) : Int).toNat * 1 + 1 ≤ 3; omega)) ?_
        conv => whnf
        refine Nx.intro ⟨⟨r.val + 1, by omega⟩, fun k hk => ?_⟩ (by simp only; omega) ?_
        · simp only at hk
          by_cases e : k = r.val
          · subst e; exact hok
          · exact hr k (by omega)
        refine Wk.intro [] rfl (fun p hp => by cases hp) ⟨.same rfl trivial, .same rfl (by exact rfl), .same rfl (by exact rfl), .same ?_ trivial, trivial⟩
          ⟨⟨rfl, .inl ⟨rfl, vR_lt _ _⟩⟩, ⟨rfl, .inl ⟨?_, vR_lt _ _⟩⟩, trivial⟩
        · exact i64_cong (i64w (by simp only; omega) (by simp only; omega) (by simp only; omega))
        · exact congrArg (fun z => some (Blk.own 3 [z])) (acc_step [1] l r.val h3 hok)
  · rw [h]
    have h3 : r.val = 3 := by have := of_decide_eq_false h; omega
    conv => whnf
    have hy := totOk_yes fun k hk => hr k (by omega)
    have e1 : totV [1] l = (tot [1] l 0, tot [1] l 1, tot [1] l 2) := by unfold totV; rw [hy]; rfl
    have e2 : totE [1] l = 0 := by unfold totE; rw [hy]; rfl
    have e3 : acc [1] l r.val = (tot [1] l 0, tot [1] l 1, tot [1] l 2) := by rw [h3]; rfl
    rw [e1, e2, e3]
    exact ⟨Or.inl rfl, Or.inl rfl, trivial⟩

theorem VecSums_law (l : List V) (hl : ∀ v ∈ l, okV v) (hlb : l.length * Try.prog.bytesOf 23 ≤ reachBytes) : FCv Try.prog 4 [.sl none 3 (vRows l)] (tb true) := by
  refine FCv_of_awp (fn := Try.f4) (c := bodyC Try.f4) Try.func4 rfl (of_decide_eq_true rfl) [] ?_
  conv => whnf
  refine ⟨_, awake_law, ?_⟩
  conv => whnf
  refine br_intro (fun h => ?_) (fun h => ?_)
  · rw [h]
    conv => whnf
    exact .inl rfl
  rw [h]
  have h1 := of_decide_eq_false h
  rw [vRows_len] at h1
  conv => whnf
  refine ⟨rfl, ?_, ?_, ?_⟩
  · rw [vRows_len]
    show (0 + l.length) * 24 ≤ _
    omega
  · rw [vRows_len]
    show 0 + l.length ≤ _
    omega
  conv => whnf
  refine ⟨_, sum_law l hl (by omega), ?_⟩
  conv => whnf
  refine ⟨_, rsum_law l hl (by omega), ?_⟩
  conv => whnf
  refine ⟨vV (totV [1] l), vV (totV [1] l), rfl, rfl, eqPure _ _ _ _ ?_⟩
  rw [eqV_self]
  conv => whnf
  refine .inl (congrArg tb ?_)
  exact beq_self_eq_true _
end Go.AW.Vec
