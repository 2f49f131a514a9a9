import Derived.Test.YtmobiphgmdigjaaMaiN2
/- Mails: their form, walked; the reference's. -/
set_option linter.unusedVariables false
set_option linter.unusedSimpArgs false
namespace Go.AW.Ml
open Go Go.AW Go.AW.Wir Go.AW.Cm Go.Proofs
set_option maxRecDepth 40000
set_option pp.maxSteps 60

theorem maylaw_no (k t a b c d : Int) (hk : ¬ (1 ≤ k ∧ k ≤ 9)) (l : List Entry) (si st : Int) (sd : List UInt8) (j : List Job) :
    FCv Try.prog 12 [.agg [i64 k, i64 t, i64 a, i64 b, i64 c, i64 d, .sl none 2 (l.map fun x => eC x), i64 si, i64 st, ts sd, .sl none 7 (j.map fun x => jC x)]] (tb false) := by
  obtain ⟨RL, hRL⟩ : ∃ RL, (l.map fun x => eC x) = RL := ⟨_, rfl⟩
  obtain ⟨RJ, hRJ⟩ : ∃ RJ, (j.map fun x => jC x) = RJ := ⟨_, rfl⟩
  rw [hRL, hRJ]
  refine FCv_of_awp (fn := Try.f12) (c := bodyC Try.f12) Try.func12 rfl (of_decide_eq_true rfl) [] ?_
  conv => whnf
  refine ⟨_, index1 _, ?_⟩
  conv => whnf
  rw [bn (show ¬ k = 4 by omega)]
  conv => whnf
  rw [bn (show ¬ k = 2 by omega)]
  conv => whnf
  rw [bn (show ¬ k = 3 by omega)]
  conv => whnf
  rw [bn (show ¬ k = 1 by omega)]
  conv => whnf
  rw [bn (show ¬ k = 5 by omega)]
  conv => whnf
  rw [bn (show ¬ k = 6 by omega)]
  conv => whnf
  rw [bn (show ¬ k = 7 by omega)]
  conv => whnf
  rw [bn (show ¬ k = 8 by omega)]
  conv => whnf
  rw [bn (show ¬ k = 9 by omega)]
  conv => whnf
  exact .inl rfl
theorem may_law (m : Mail) (h : inM m) : FCv Try.prog 12 [.agg (mC m)] (tb (mayM m)) := by
  obtain ⟨k, t, a, b, c, d, l, si, st, sd, j⟩ := m
  obtain ⟨_, _, _, ⟨hl, _⟩, _, hjl, hj⟩ := h
  have hl' : l.length ≤ 9223372036854775806 := Nat.le_trans hl (by decide)
  have hjl' : j.length ≤ 9223372036854775806 := Nat.le_trans hjl (by decide)
  unfold mC
  dsimp only
  by_cases k1 : k = 1
  · subst k1; exact maylaw_1 t a b c d l si st sd j hl' hjl' hj
  by_cases k2 : k = 2
  · subst k2; exact maylaw_2 t a b c d l si st sd j hl' hjl' hj
  by_cases k3 : k = 3
  · subst k3; exact maylaw_3 t a b c d l si st sd j hl' hjl' hj
  by_cases k4 : k = 4
  · subst k4; exact maylaw_4 t a b c d l si st sd j hl' hjl' hj
  by_cases k5 : k = 5
  · subst k5; exact maylaw_5 t a b c d l si st sd j hl' hjl' hj
  by_cases k6 : k = 6
  · subst k6; exact maylaw_6 t a b c d l si st sd j hl' hjl' hj
  by_cases k7 : k = 7
  · subst k7; exact maylaw_7 t a b c d l si st sd j hl' hjl' hj
  by_cases k8 : k = 8
  · subst k8; exact maylaw_8 t a b c d l si st sd j hl' hjl' hj
  by_cases k9 : k = 9
  · subst k9; exact maylaw_9 t a b c d l si st sd j hl' hjl' hj
  rw [may_nk (m := ⟨k, t, a, b, c, d, l, si, st, sd, j⟩) (by dsimp only; omega)]
  exact maylaw_no k t a b c d (by omega) l si st sd j

theorem nt {b : Bool} (h : (!b) = true) : b = false := by cases b <;> simp_all
theorem nf {b : Bool} (h : (!b) = false) : b = true := by cases b <;> simp_all
theorem decB (n k : Int) : (n == k) = decide (n = k) := by rw [Bool.eq_iff_iff, beq_iff_eq, decide_eq_true_eq]

theorem span_law (k : Int) (h1 : 1 ≤ k) (h9 : k ≤ 9) : FCv Try.prog 35 [i64 k] (.agg [i64 (spanA k).1, i64 (spanA k).2, i64 (spanB k).1, i64 (spanB k).2, i64 (spanC k).1, i64 (spanC k).2, i64 (spanD k).1, i64 (spanD k).2]) := by
  have hk : k = 1 ∨ k = 2 ∨ k = 3 ∨ k = 4 ∨ k = 5 ∨ k = 6 ∨ k = 7 ∨ k = 8 ∨ k = 9 := by omega
  rcases hk with rfl | rfl | rfl | rfl | rfl | rfl | rfl | rfl | rfl <;>
    (refine FCv_of_awp (fn := Try.f35) (c := bodyC Try.f35) Try.func35 rfl (of_decide_eq_true rfl) [] ?_) <;>
    (conv => whnf) <;> exact .inl rfl
theorem mayL_iff {m : Mail} : mayL m = true ↔ (m.kind = 3 ∨ m.l = []) ∧ m.l.length ≤ 16 ∧ ∀ x ∈ m.l, mayE x = true := by
  unfold mayL
  split
  · rename_i h
    simp only [Bool.and_eq_true, decide_eq_true_eq, List.all_eq_true]
    exact ⟨fun g => ⟨.inl h, g⟩, fun g => g.2⟩
  · rename_i h
    rw [decide_eq_true_eq]
    constructor
    · intro g; rw [g]; exact ⟨.inr rfl, by simp, by simp⟩
    · rintro ⟨g | g, _⟩
      · exact absurd g h
      · exact g
theorem mayJ_iff {m : Mail} : mayJs m = true ↔ (8 ≤ m.kind ∨ m.j = []) ∧ m.j.length ≤ 128 ∧ ∀ x ∈ m.j, mayJ x = true := by
  unfold mayJs
  split
  · rename_i h
    simp only [Bool.and_eq_true, decide_eq_true_eq, List.all_eq_true]
    exact ⟨fun g => ⟨.inl h, g⟩, fun g => g.2⟩
  · rename_i h
    rw [decide_eq_true_eq]
    constructor
    · intro g; rw [g]; exact ⟨.inr rfl, by simp, by simp⟩
    · rintro ⟨g | g, _⟩
      · exact absurd g h
      · exact g
theorem cell8_lt (x : Nat) (a b c d e f g' h : Int) : blkLt x (.own 8 [[i64 a, i64 b, i64 c, i64 d, i64 e, i64 f, i64 g', i64 h]]) := by
  intro row hr e he
  obtain rfl := List.mem_singleton.1 hr
  simp only [List.mem_cons, List.mem_nil_iff, or_false] at he
  rcases he with rfl | rfl | rfl | rfl | rfl | rfl | rfl | rfl <;> trivial
theorem cell4_lt (x : Nat) (a b c d : Int) : blkLt x (.own 4 [[i64 a, i64 b, i64 c, i64 d]]) := by
  intro row hr e he
  obtain rfl := List.mem_singleton.1 hr
  simp only [List.mem_cons, List.mem_nil_iff, or_false] at he
  rcases he with rfl | rfl | rfl | rfl <;> trivial
theorem mail_lt (x : Nat) (k t a b c d : Int) (RL : List (List T)) (si st : Int) (sd : List UInt8) (RJ : List (List T)) : blkLt x (.own 11 [[i64 k, i64 t, i64 a, i64 b, i64 c, i64 d, .sl none 2 RL, i64 si, i64 st, ts sd, .sl none 7 RJ]]) := by
  intro row hr e he
  obtain rfl := List.mem_singleton.1 hr
  simp only [List.mem_cons, List.mem_nil_iff, or_false] at he
  rcases he with rfl | rfl | rfl | rfl | rfl | rfl | rfl | rfl | rfl | rfl | rfl <;> trivial
theorem rmay_law (m : Mail) (hin : inM m) : FCv Try.prog 13 [.agg (mC m)] (tb (mayM m)) := by
  have hm := @mayM_iff m
  have hL := @mayL_iff m
  have hJ := @mayJ_iff m
  have hS : mayS m = if m.kind = 5 then wi m.si 1 big && (wi m.st 1 big && decide (m.sd.length ≤ 65536)) else if m.kind = 6 ∨ m.kind = 7 then decide (m.si = 0) && (decide (m.st = 0) && decide (m.sd.length ≤ 4000)) else decide (m.si = 0) && (decide (m.st = 0) && decide (m.sd = [])) := rfl
  obtain ⟨R, hR⟩ : ∃ R, mayM m = R := ⟨_, rfl⟩
  rw [hR] at hm ⊢
  obtain ⟨k, t, a, b, c, d, l, si, st, sd, j⟩ := m
  obtain ⟨_, _, _, ⟨hl, _⟩, _, hjl, hj⟩ := hin
  dsimp only at hm hL hJ hS hl hjl hj
  have no : ¬ (wi k 1 9 = true ∧ wi t 0 big = true ∧ inS a (spanA k) = true ∧ inS b (spanB k) = true ∧ inS c (spanC k) = true ∧ inS d (spanD k) = true ∧ mayL ⟨k, t, a, b, c, d, l, si, st, sd, j⟩ = true ∧ mayS ⟨k, t, a, b, c, d, l, si, st, sd, j⟩ = true ∧ mayJs ⟨k, t, a, b, c, d, l, si, st, sd, j⟩ = true) → R = false := fun h => by
    cases R with
    | false => rfl
    | true => exact absurd (hm.1 rfl) h
  unfold mC
  dsimp only
  have l1 : (l.map fun x => eC x).length = l.length := List.length_map _
  have l2 : (j.map fun x => jC x).length = j.length := List.length_map _
  have g1 : ∀ (i : Nat) (x : Entry), l[i]? = some x → (l.map fun x => eC x)[i]? = some (eC x) := fun i x h => by rw [List.getElem?_map, h]; rfl
  have g2 : ∀ (i : Nat) (x : Job), j[i]? = some x → (j.map fun x => jC x)[i]? = some (jC x) := fun i x h => by rw [List.getElem?_map, h]; rfl
  obtain ⟨RL, hRL⟩ : ∃ RL, (l.map fun x => eC x) = RL := ⟨_, rfl⟩
  obtain ⟨RJ, hRJ⟩ : ∃ RJ, (j.map fun x => jC x) = RJ := ⟨_, rfl⟩
  rw [hRL] at l1 g1 ⊢
  rw [hRJ] at l2 g2 ⊢
  refine FCv_of_awp (fn := Try.f13) (c := bodyC Try.f13) Try.func13 rfl (of_decide_eq_true rfl) [] ?_
  conv => whnf
  refine br_intro (fun h1 => ?_) (fun h1 => ?_) <;> (rw [h1]; conv => whnf)
  · exact .inl (congrArg tb (no (fun h => by have := (wi_iff.1 h.1).1; have := of_decide_eq_true h1; omega)).symm)
  refine br_intro (fun h2 => ?_) (fun h2 => ?_) <;> (rw [h2]; conv => whnf)
  · exact .inl (congrArg tb (no (fun h => by have := (wi_iff.1 h.1).2; have := of_decide_eq_true h2; omega)).symm)
  replace h1 := of_decide_eq_false h1
  replace h2 := of_decide_eq_false h2
  refine ⟨_, rwithin_law t 0 big, ?_⟩
  conv => whnf
  cases h3 : wi t 0 big with
  | false =>
    conv => whnf
    exact .inl (congrArg tb (no (fun h => by rw [h3] at h; exact Bool.noConfusion h.2.1)).symm)
  | true =>
  conv => whnf
  refine ⟨_, span_law k (by omega) (by omega), ?_⟩
  conv => whnf
  refine loop_intro (fun y : { i : Nat // i < 5 ∧ (0 < i → inS a (spanA k) = true) ∧ (1 < i → inS b (spanB k) = true) ∧ (2 < i → inS c (spanC k) = true) ∧ (3 < i → inS d (spanD k) = true) } =>
    ⟨[(1, .ptr 0 0 0), (3, .ptr 1 0 0), (4, .ptr 2 0 0), (5, i64 (y.1 : Nat))], [(0, .own 11 [[i64 k, i64 t, i64 a, i64 b, i64 c, i64 d, .sl none 2 RL, i64 si, i64 st, ts sd, .sl none 7 RJ]]), (1, .own 8 [[i64 (spanA k).1, i64 (spanA k).2, i64 (spanB k).1, i64 (spanB k).2, i64 (spanC k).1, i64 (spanC k).2, i64 (spanD k).1, i64 (spanD k).2]]), (2, .own 4 [[i64 a, i64 b, i64 c, i64 d]])], 175, 3, []⟩)
    (fun y => 4 - y.1) ⟨0, by omega, fun h => by omega, fun h => by omega, fun h => by omega, fun h => by omega⟩ ?_ ?_
  · exact Wk.intro [] rfl (fun p hp => by cases hp) ⟨.same rfl (by exact rfl), .same rfl (by exact rfl), .same rfl (by exact rfl), .same rfl trivial, trivial⟩ ⟨⟨rfl, .inl ⟨rfl, mail_lt _ _ _ _ _ _ _ _ _ _ _ _⟩⟩, ⟨rfl, .inl ⟨rfl, cell8_lt _ _ _ _ _ _ _ _ _⟩⟩, ⟨rfl, .inl ⟨rfl, cell4_lt _ _ _ _ _⟩⟩, trivial⟩
  rintro ⟨i, hi, q0, q1, q2, q3⟩
  have hnx : ∀ j, j < 5 → j = 0 ∨ j = 1 ∨ j = 2 ∨ j = 3 ∨ j = 4 := by omega
  rcases hnx i hi with rfl | rfl | rfl | rfl | rfl
  · conv => whnf
    refine ⟨⟨by dsimp only; omega, by dsimp only; omega⟩, ?_⟩
    conv => whnf
    refine ⟨⟨by dsimp only; omega, by dsimp only; omega⟩, ?_⟩
    conv => whnf
    refine ⟨by decide, ?_⟩
    conv => whnf
    refine ⟨⟨by dsimp only; omega, by dsimp only; omega⟩, ?_⟩
    conv => whnf
    refine ⟨by decide, ?_⟩
    conv => whnf
    refine ⟨_, rwithin_law a (spanA k).1 (spanA k).2, ?_⟩
    conv => whnf
    refine br_intro (fun h => ?_) (fun h => ?_) <;> (rw [h]; conv => whnf)
    · have hq : inS a (spanA k) = false := nt h
      exact .inl (congrArg tb (no (fun h => by rw [hq] at h; simp at h)).symm)
    · have hq : inS a (spanA k) = true := nf h
      refine Nx.intro ⟨1, by omega, fun _ => hq, fun h => by omega, fun h => by omega, fun h => by omega⟩ (by dsimp only; omega) ?_
      exact Wk.intro [] rfl (fun p hp => by cases hp) ⟨.same rfl (by exact rfl), .same rfl (by exact rfl), .same rfl (by exact rfl), .same rfl trivial, trivial⟩ ⟨⟨rfl, .inl ⟨rfl, mail_lt _ _ _ _ _ _ _ _ _ _ _ _⟩⟩, ⟨rfl, .inl ⟨rfl, cell8_lt _ _ _ _ _ _ _ _ _⟩⟩, ⟨rfl, .inl ⟨rfl, cell4_lt _ _ _ _ _⟩⟩, trivial⟩
  · conv => whnf
    refine ⟨⟨by dsimp only; omega, by dsimp only; omega⟩, ?_⟩
    conv => whnf
    refine ⟨⟨by dsimp only; omega, by dsimp only; omega⟩, ?_⟩
    conv => whnf
    refine ⟨by decide, ?_⟩
    conv => whnf
    refine ⟨⟨by dsimp only; omega, by dsimp only; omega⟩, ?_⟩
    conv => whnf
    refine ⟨by decide, ?_⟩
    conv => whnf
    refine ⟨_, rwithin_law b (spanB k).1 (spanB k).2, ?_⟩
    conv => whnf
    refine br_intro (fun h => ?_) (fun h => ?_) <;> (rw [h]; conv => whnf)
    · have hq : inS b (spanB k) = false := nt h
      exact .inl (congrArg tb (no (fun h => by rw [hq] at h; simp at h)).symm)
    · have hq : inS b (spanB k) = true := nf h
      refine Nx.intro ⟨2, by omega, fun _ => q0 (by omega), fun _ => hq, fun h => by omega, fun h => by omega⟩ (by dsimp only; omega) ?_
      exact Wk.intro [] rfl (fun p hp => by cases hp) ⟨.same rfl (by exact rfl), .same rfl (by exact rfl), .same rfl (by exact rfl), .same rfl trivial, trivial⟩ ⟨⟨rfl, .inl ⟨rfl, mail_lt _ _ _ _ _ _ _ _ _ _ _ _⟩⟩, ⟨rfl, .inl ⟨rfl, cell8_lt _ _ _ _ _ _ _ _ _⟩⟩, ⟨rfl, .inl ⟨rfl, cell4_lt _ _ _ _ _⟩⟩, trivial⟩
  · conv => whnf
    refine ⟨⟨by dsimp only; omega, by dsimp only; omega⟩, ?_⟩
    conv => whnf
    refine ⟨⟨by dsimp only; omega, by dsimp only; omega⟩, ?_⟩
    conv => whnf
    refine ⟨by decide, ?_⟩
    conv => whnf
    refine ⟨⟨by dsimp only; omega, by dsimp only; omega⟩, ?_⟩
    conv => whnf
    refine ⟨by decide, ?_⟩
    conv => whnf
    refine ⟨_, rwithin_law c (spanC k).1 (spanC k).2, ?_⟩
    conv => whnf
    refine br_intro (fun h => ?_) (fun h => ?_) <;> (rw [h]; conv => whnf)
    · have hq : inS c (spanC k) = false := nt h
      exact .inl (congrArg tb (no (fun h => by rw [hq] at h; simp at h)).symm)
    · have hq : inS c (spanC k) = true := nf h
      refine Nx.intro ⟨3, by omega, fun _ => q0 (by omega), fun _ => q1 (by omega), fun _ => hq, fun h => by omega⟩ (by dsimp only; omega) ?_
      exact Wk.intro [] rfl (fun p hp => by cases hp) ⟨.same rfl (by exact rfl), .same rfl (by exact rfl), .same rfl (by exact rfl), .same rfl trivial, trivial⟩ ⟨⟨rfl, .inl ⟨rfl, mail_lt _ _ _ _ _ _ _ _ _ _ _ _⟩⟩, ⟨rfl, .inl ⟨rfl, cell8_lt _ _ _ _ _ _ _ _ _⟩⟩, ⟨rfl, .inl ⟨rfl, cell4_lt _ _ _ _ _⟩⟩, trivial⟩
  · conv => whnf
    refine ⟨⟨by dsimp only; omega, by dsimp only; omega⟩, ?_⟩
    conv => whnf
    refine ⟨⟨by dsimp only; omega, by dsimp only; omega⟩, ?_⟩
    conv => whnf
    refine ⟨by decide, ?_⟩
    conv => whnf
    refine ⟨⟨by dsimp only; omega, by dsimp only; omega⟩, ?_⟩
    conv => whnf
    refine ⟨by decide, ?_⟩
    conv => whnf
    refine ⟨_, rwithin_law d (spanD k).1 (spanD k).2, ?_⟩
    conv => whnf
    refine br_intro (fun h => ?_) (fun h => ?_) <;> (rw [h]; conv => whnf)
    · have hq : inS d (spanD k) = false := nt h
      exact .inl (congrArg tb (no (fun h => by rw [hq] at h; simp at h)).symm)
    · have hq : inS d (spanD k) = true := nf h
      refine Nx.intro ⟨4, by omega, fun _ => q0 (by omega), fun _ => q1 (by omega), fun _ => q2 (by omega), fun _ => hq⟩ (by dsimp only; omega) ?_
      exact Wk.intro [] rfl (fun p hp => by cases hp) ⟨.same rfl (by exact rfl), .same rfl (by exact rfl), .same rfl (by exact rfl), .same rfl trivial, trivial⟩ ⟨⟨rfl, .inl ⟨rfl, mail_lt _ _ _ _ _ _ _ _ _ _ _ _⟩⟩, ⟨rfl, .inl ⟨rfl, cell8_lt _ _ _ _ _ _ _ _ _⟩⟩, ⟨rfl, .inl ⟨rfl, cell4_lt _ _ _ _ _⟩⟩, trivial⟩
  conv => whnf
  replace q0 := q0 (by omega)
  replace q1 := q1 (by omega)
  replace q2 := q2 (by omega)
  replace q3 := q3 (by omega)
  by_cases k3 : k = 3
  · rw [qq k3]
    conv => whnf
    have hkl : k = 3 ∨ l = [] := .inl k3
    rw [l1]
    refine br_intro (fun h5 => ?_) (fun h5 => ?_) <;> (rw [h5]; conv => whnf)
    · exact .inl (congrArg tb (no (fun h => by have := (hL.1 h.2.2.2.2.2.2.1).2.1; have := of_decide_eq_true h5; omega)).symm)
    replace h5 := of_decide_eq_false h5
    refine loop_intro (fun y : { i : Nat // i ≤ l.length ∧ ∀ x ∈ l.take i, mayE x = true } =>
      ⟨[(1, .ptr 0 0 0), (6, i64 (y.1 : Nat))], [(0, .own 11 [[i64 k, i64 t, i64 a, i64 b, i64 c, i64 d, .sl none 2 RL, i64 si, i64 st, ts sd, .sl none 7 RJ]])], 175, 3, []⟩) (fun y => l.length - y.1) ⟨0, Nat.zero_le _, by simp⟩ ?_ ?_
    · exact Wk.intro [] rfl (fun p hp => by cases hp) ⟨.same rfl (by exact rfl), .same rfl trivial, trivial⟩ ⟨⟨rfl, .inl ⟨rfl, mail_lt _ _ _ _ _ _ _ _ _ _ _ _⟩⟩, trivial⟩
    rintro ⟨i, hi1, hi2⟩
    dsimp only at hi1 hi2 ⊢
    conv => whnf
    rw [l1]
    refine br_intro (fun h9 => ?_) (fun h9 => ?_) <;> (rw [h9]; conv => whnf)
    · have hlt : i < l.length := by have := of_decide_eq_true h9; omega
      refine ⟨by omega, nthK_intro (g1 i l[i] (List.getElem?_eq_getElem hlt)) ?_⟩
      conv => whnf
      have hmem : l[i] ∈ l := List.getElem_mem hlt
      have htk : l.take (i + 1) = l.take i ++ [l[i]] := by rw [List.take_add_one, List.getElem?_eq_getElem hlt]; rfl
      have hE : mayE l[i] = (wi (l[i]).term 1 big && decide ((l[i]).data.length ≤ 4000)) := rfl
      refine ⟨_, rwithin_law (l[i]).term 1 big, ?_⟩
      conv => whnf
      cases w1 : wi (l[i]).term 1 big with
      | false =>
        conv => whnf
        exact .inl (congrArg tb (no (fun h => by have := (hL.1 h.2.2.2.2.2.2.1).2.2 _ hmem; rw [hE, w1] at this; cases this)).symm)
      | true =>
      conv => whnf
      refine ⟨by omega, nthK_intro (g1 i l[i] (List.getElem?_eq_getElem hlt)) ?_⟩
      conv => whnf
      rw [sizeD]
      refine br_intro (fun h => ?_) (fun h => ?_) <;> (rw [h]; conv => whnf)
      · have hq := of_decide_eq_true h
        exact .inl (congrArg tb (no (fun h => by have := (hL.1 h.2.2.2.2.2.2.1).2.2 _ hmem; rw [hE, decide_eq_false (by omega), Bool.and_false] at this; cases this)).symm)
      · have hq := of_decide_eq_false h
        refine Nx.intro ⟨i + 1, hlt, fun x hx => ?_⟩ (by dsimp only; omega) ?_
        · rw [htk] at hx
          rcases List.mem_append.1 hx with hx | hx
          · exact hi2 x hx
          · rw [List.mem_singleton.1 hx, hE, w1, decide_eq_true (by omega)]; rfl
        exact Wk.intro [] rfl (fun p hp => by cases hp) ⟨.same rfl (by exact rfl), .same (congrArg i64 (by rw [wrap_i64 _ (by omega) (by omega)]; rfl)) trivial, trivial⟩ ⟨⟨rfl, .inl ⟨rfl, mail_lt _ _ _ _ _ _ _ _ _ _ _ _⟩⟩, trivial⟩
    obtain rfl : i = l.length := by have := of_decide_eq_false h9; omega
    rw [List.take_length] at hi2
    have hEs := hi2
    refine br_intro (fun h6 => ?_) (fun h6 => ?_) <;> (rw [h6]; conv => whnf)
    · rw [l2]
      refine br_intro (fun h7 => ?_) (fun h7 => ?_) <;> (rw [h7]; conv => whnf)
      · exact .inl (congrArg tb (no (fun h => by have h6 := of_decide_eq_true h6; have h7 := of_decide_eq_true h7; exact (hJ.1 h.2.2.2.2.2.2.2.2).1.elim (fun g => by omega) (fun g => by rw [g] at h7; simp at h7))).symm)
      have hkj : 8 ≤ k ∨ j = [] := .inr (List.length_eq_zero_iff.1 (by have := of_decide_eq_false h7; omega))
      rw [l2]
      refine br_intro (fun h8 => ?_) (fun h8 => ?_) <;> (rw [h8]; conv => whnf)
      · exact .inl (congrArg tb (no (fun h => by have := (hJ.1 h.2.2.2.2.2.2.2.2).2.1; have := of_decide_eq_true h8; omega)).symm)
      replace h8 := of_decide_eq_false h8
      refine loop_intro (fun y : { i : Nat // i ≤ j.length ∧ ∀ x ∈ j.take i, mayJ x = true } =>
        ⟨[(1, .ptr 0 0 0), (7, i64 (y.1 : Nat))], [(0, .own 11 [[i64 k, i64 t, i64 a, i64 b, i64 c, i64 d, .sl none 2 RL, i64 si, i64 st, ts sd, .sl none 7 RJ]])], 175, 3, []⟩) (fun y => j.length - y.1) ⟨0, Nat.zero_le _, by simp⟩ ?_ ?_
      · exact Wk.intro [] rfl (fun p hp => by cases hp) ⟨.same rfl (by exact rfl), .same rfl trivial, trivial⟩ ⟨⟨rfl, .inl ⟨rfl, mail_lt _ _ _ _ _ _ _ _ _ _ _ _⟩⟩, trivial⟩
      rintro ⟨i, hi1, hi2⟩
      dsimp only at hi1 hi2 ⊢
      conv => whnf
      rw [l2]
      refine br_intro (fun h9 => ?_) (fun h9 => ?_) <;> (rw [h9]; conv => whnf)
      · have hlt : i < j.length := by have := of_decide_eq_true h9; omega
        refine ⟨by omega, nthK_intro (g2 i j[i] (List.getElem?_eq_getElem hlt)) ?_⟩
        conv => whnf
        have hmem : j[i] ∈ j := List.getElem_mem hlt
        have htk : j.take (i + 1) = j.take i ++ [j[i]] := by rw [List.take_add_one, List.getElem?_eq_getElem hlt]; rfl
        refine ⟨_, rjob_law j[i] (hj _ hmem), ?_⟩
        conv => whnf
        refine br_intro (fun h => ?_) (fun h => ?_) <;> (rw [h]; conv => whnf)
        · have hq : mayJ j[i] = false := nt h
          exact .inl (congrArg tb (no (fun h => by have := (hJ.1 h.2.2.2.2.2.2.2.2).2.2 _ hmem; rw [hq] at this; cases this)).symm)
        · have hq : mayJ j[i] = true := nf h
          refine Nx.intro ⟨i + 1, hlt, fun x hx => ?_⟩ (by dsimp only; omega) ?_
          · rw [htk] at hx
            rcases List.mem_append.1 hx with hx | hx
            · exact hi2 x hx
            · rw [List.mem_singleton.1 hx]; exact hq
          exact Wk.intro [] rfl (fun p hp => by cases hp) ⟨.same rfl (by exact rfl), .same (congrArg i64 (by rw [wrap_i64 _ (by omega) (by omega)]; rfl)) trivial, trivial⟩ ⟨⟨rfl, .inl ⟨rfl, mail_lt _ _ _ _ _ _ _ _ _ _ _ _⟩⟩, trivial⟩
      obtain rfl : i = j.length := by have := of_decide_eq_false h9; omega
      rw [List.take_length] at hi2
      have hJs := hi2
      have all : ∀ q : Bool, mayS ⟨k, t, a, b, c, d, l, si, st, sd, j⟩ = q → R = q := by
        intro q hq
        cases q with
        | true => exact hm.2 ⟨wi_iff.2 ⟨by omega, by omega⟩, h3, q0, q1, q2, q3, hL.2 ⟨hkl, by omega, hEs⟩, hq, hJ.2 ⟨hkj, by omega, hJs⟩⟩
        | false => exact no (fun h => by rw [hq] at h; simp at h)
      by_cases k5 : k = 5
      · rw [bq k5]
        conv => whnf
        rw [if_pos k5] at hS
        refine ⟨_, rwithin_law si 1 big, ?_⟩
        conv => whnf
        cases w1 : wi si 1 big with
        | false =>
          conv => whnf
          exact .inl (congrArg tb (all false (by rw [hS, w1]; rfl)).symm)
        | true =>
          conv => whnf
          refine ⟨_, rwithin_law st 1 big, ?_⟩
          conv => whnf
          cases w2 : wi st 1 big with
          | false =>
            conv => whnf
            exact .inl (congrArg tb (all false (by rw [hS, w1, w2]; rfl)).symm)
          | true =>
            conv => whnf
            exact .inl (congrArg tb (all _ (by rw [hS, w1, w2, sizeD, leA]; rfl)).symm)
      rw [bn k5]
      rw [if_neg k5] at hS
      conv => whnf
      have key : ∀ tx : Bool, tx = decide (k = 6 ∨ k = 7) → R = (si == 0 && (st == 0 && (decide (sd.length ≤ 4000) && (tx || decide (sd = []))))) := by
        intro tx htx
        refine all _ ?_
        rw [hS, htx]
        by_cases h67 : k = 6 ∨ k = 7
        · rw [if_pos h67, decide_eq_true h67, Bool.true_or, Bool.and_true, ← decB si, ← decB st]
        · rw [if_neg h67, decide_eq_false h67, Bool.false_or, ← decB si, ← decB st]
          by_cases hsd : sd = []
          · rw [hsd]; simp
          · rw [decide_eq_false hsd]; simp
      by_cases k6 : k = 6
      · rw [bq k6]
        conv => whnf
        have key := key true (by rw [decide_eq_true (.inl k6)])
        repeat' (first
          | (refine br_intro (fun h => ?_) (fun h => ?_) <;> (rw [h]; conv => whnf)))
        all_goals (refine .inl (congrArg tb ?_); rw [key]; simp only [sizeD, leB, emptyD] at *; simp only [*, Bool.true_and, Bool.false_and, Bool.and_true, Bool.and_false, Bool.true_or, Bool.false_or])
      rw [bn k6]
      conv => whnf
      by_cases k7 : k = 7
      · rw [bq k7]
        conv => whnf
        have key := key true (by rw [decide_eq_true (.inr k7)])
        repeat' (first
          | (refine br_intro (fun h => ?_) (fun h => ?_) <;> (rw [h]; conv => whnf)))
        all_goals (refine .inl (congrArg tb ?_); rw [key]; simp only [sizeD, leB, emptyD] at *; simp only [*, Bool.true_and, Bool.false_and, Bool.and_true, Bool.and_false, Bool.true_or, Bool.false_or])
      rw [bn k7]
      conv => whnf
      have key := key false (by rw [decide_eq_false (by omega)])
      repeat' (first
        | (refine br_intro (fun h => ?_) (fun h => ?_) <;> (rw [h]; conv => whnf)))
      all_goals (refine .inl (congrArg tb ?_); rw [key]; simp only [sizeD, leB, emptyD] at *; simp only [*, Bool.true_and, Bool.false_and, Bool.and_true, Bool.and_false, Bool.true_or, Bool.false_or])
    have hkj : 8 ≤ k ∨ j = [] := .inl (by have := of_decide_eq_false h6; omega)
    rw [l2]
    refine br_intro (fun h8 => ?_) (fun h8 => ?_) <;> (rw [h8]; conv => whnf)
    · exact .inl (congrArg tb (no (fun h => by have := (hJ.1 h.2.2.2.2.2.2.2.2).2.1; have := of_decide_eq_true h8; omega)).symm)
    replace h8 := of_decide_eq_false h8
    refine loop_intro (fun y : { i : Nat // i ≤ j.length ∧ ∀ x ∈ j.take i, mayJ x = true } =>
      ⟨[(1, .ptr 0 0 0), (7, i64 (y.1 : Nat))], [(0, .own 11 [[i64 k, i64 t, i64 a, i64 b, i64 c, i64 d, .sl none 2 RL, i64 si, i64 st, ts sd, .sl none 7 RJ]])], 175, 3, []⟩) (fun y => j.length - y.1) ⟨0, Nat.zero_le _, by simp⟩ ?_ ?_
    · exact Wk.intro [] rfl (fun p hp => by cases hp) ⟨.same rfl (by exact rfl), .same rfl trivial, trivial⟩ ⟨⟨rfl, .inl ⟨rfl, mail_lt _ _ _ _ _ _ _ _ _ _ _ _⟩⟩, trivial⟩
    rintro ⟨i, hi1, hi2⟩
    dsimp only at hi1 hi2 ⊢
    conv => whnf
    rw [l2]
    refine br_intro (fun h9 => ?_) (fun h9 => ?_) <;> (rw [h9]; conv => whnf)
    · have hlt : i < j.length := by have := of_decide_eq_true h9; omega
      refine ⟨by omega, nthK_intro (g2 i j[i] (List.getElem?_eq_getElem hlt)) ?_⟩
      conv => whnf
      have hmem : j[i] ∈ j := List.getElem_mem hlt
      have htk : j.take (i + 1) = j.take i ++ [j[i]] := by rw [List.take_add_one, List.getElem?_eq_getElem hlt]; rfl
      refine ⟨_, rjob_law j[i] (hj _ hmem), ?_⟩
      conv => whnf
      refine br_intro (fun h => ?_) (fun h => ?_) <;> (rw [h]; conv => whnf)
      · have hq : mayJ j[i] = false := nt h
        exact .inl (congrArg tb (no (fun h => by have := (hJ.1 h.2.2.2.2.2.2.2.2).2.2 _ hmem; rw [hq] at this; cases this)).symm)
      · have hq : mayJ j[i] = true := nf h
        refine Nx.intro ⟨i + 1, hlt, fun x hx => ?_⟩ (by dsimp only; omega) ?_
        · rw [htk] at hx
          rcases List.mem_append.1 hx with hx | hx
          · exact hi2 x hx
          · rw [List.mem_singleton.1 hx]; exact hq
        exact Wk.intro [] rfl (fun p hp => by cases hp) ⟨.same rfl (by exact rfl), .same (congrArg i64 (by rw [wrap_i64 _ (by omega) (by omega)]; rfl)) trivial, trivial⟩ ⟨⟨rfl, .inl ⟨rfl, mail_lt _ _ _ _ _ _ _ _ _ _ _ _⟩⟩, trivial⟩
    obtain rfl : i = j.length := by have := of_decide_eq_false h9; omega
    rw [List.take_length] at hi2
    have hJs := hi2
    have all : ∀ q : Bool, mayS ⟨k, t, a, b, c, d, l, si, st, sd, j⟩ = q → R = q := by
      intro q hq
      cases q with
      | true => exact hm.2 ⟨wi_iff.2 ⟨by omega, by omega⟩, h3, q0, q1, q2, q3, hL.2 ⟨hkl, by omega, hEs⟩, hq, hJ.2 ⟨hkj, by omega, hJs⟩⟩
      | false => exact no (fun h => by rw [hq] at h; simp at h)
    by_cases k5 : k = 5
    · rw [bq k5]
      conv => whnf
      rw [if_pos k5] at hS
      refine ⟨_, rwithin_law si 1 big, ?_⟩
      conv => whnf
      cases w1 : wi si 1 big with
      | false =>
        conv => whnf
        exact .inl (congrArg tb (all false (by rw [hS, w1]; rfl)).symm)
      | true =>
        conv => whnf
        refine ⟨_, rwithin_law st 1 big, ?_⟩
        conv => whnf
        cases w2 : wi st 1 big with
        | false =>
          conv => whnf
          exact .inl (congrArg tb (all false (by rw [hS, w1, w2]; rfl)).symm)
        | true =>
          conv => whnf
          exact .inl (congrArg tb (all _ (by rw [hS, w1, w2, sizeD, leA]; rfl)).symm)
    rw [bn k5]
    rw [if_neg k5] at hS
    conv => whnf
    have key : ∀ tx : Bool, tx = decide (k = 6 ∨ k = 7) → R = (si == 0 && (st == 0 && (decide (sd.length ≤ 4000) && (tx || decide (sd = []))))) := by
      intro tx htx
      refine all _ ?_
      rw [hS, htx]
      by_cases h67 : k = 6 ∨ k = 7
      · rw [if_pos h67, decide_eq_true h67, Bool.true_or, Bool.and_true, ← decB si, ← decB st]
      · rw [if_neg h67, decide_eq_false h67, Bool.false_or, ← decB si, ← decB st]
        by_cases hsd : sd = []
        · rw [hsd]; simp
        · rw [decide_eq_false hsd]; simp
    by_cases k6 : k = 6
    · rw [bq k6]
      conv => whnf
      have key := key true (by rw [decide_eq_true (.inl k6)])
      repeat' (first
        | (refine br_intro (fun h => ?_) (fun h => ?_) <;> (rw [h]; conv => whnf)))
      all_goals (refine .inl (congrArg tb ?_); rw [key]; simp only [sizeD, leB, emptyD] at *; simp only [*, Bool.true_and, Bool.false_and, Bool.and_true, Bool.and_false, Bool.true_or, Bool.false_or])
    rw [bn k6]
    conv => whnf
    by_cases k7 : k = 7
    · rw [bq k7]
      conv => whnf
      have key := key true (by rw [decide_eq_true (.inr k7)])
      repeat' (first
        | (refine br_intro (fun h => ?_) (fun h => ?_) <;> (rw [h]; conv => whnf)))
      all_goals (refine .inl (congrArg tb ?_); rw [key]; simp only [sizeD, leB, emptyD] at *; simp only [*, Bool.true_and, Bool.false_and, Bool.and_true, Bool.and_false, Bool.true_or, Bool.false_or])
    rw [bn k7]
    conv => whnf
    have key := key false (by rw [decide_eq_false (by omega)])
    repeat' (first
      | (refine br_intro (fun h => ?_) (fun h => ?_) <;> (rw [h]; conv => whnf)))
    all_goals (refine .inl (congrArg tb ?_); rw [key]; simp only [sizeD, leB, emptyD] at *; simp only [*, Bool.true_and, Bool.false_and, Bool.and_true, Bool.and_false, Bool.true_or, Bool.false_or])
  rw [qn k3]
  conv => whnf
  rw [l1]
  refine br_intro (fun h4 => ?_) (fun h4 => ?_) <;> (rw [h4]; conv => whnf)
  · exact .inl (congrArg tb (no (fun h => by have h4 := of_decide_eq_true h4; exact (hL.1 h.2.2.2.2.2.2.1).1.elim (fun g => k3 g) (fun g => by rw [g] at h4; simp at h4))).symm)
  have hkl : k = 3 ∨ l = [] := .inr (List.length_eq_zero_iff.1 (by have := of_decide_eq_false h4; omega))
  rw [l1]
  refine br_intro (fun h5 => ?_) (fun h5 => ?_) <;> (rw [h5]; conv => whnf)
  · exact .inl (congrArg tb (no (fun h => by have := (hL.1 h.2.2.2.2.2.2.1).2.1; have := of_decide_eq_true h5; omega)).symm)
  replace h5 := of_decide_eq_false h5
  refine loop_intro (fun y : { i : Nat // i ≤ l.length ∧ ∀ x ∈ l.take i, mayE x = true } =>
    ⟨[(1, .ptr 0 0 0), (6, i64 (y.1 : Nat))], [(0, .own 11 [[i64 k, i64 t, i64 a, i64 b, i64 c, i64 d, .sl none 2 RL, i64 si, i64 st, ts sd, .sl none 7 RJ]])], 175, 3, []⟩) (fun y => l.length - y.1) ⟨0, Nat.zero_le _, by simp⟩ ?_ ?_
  · exact Wk.intro [] rfl (fun p hp => by cases hp) ⟨.same rfl (by exact rfl), .same rfl trivial, trivial⟩ ⟨⟨rfl, .inl ⟨rfl, mail_lt _ _ _ _ _ _ _ _ _ _ _ _⟩⟩, trivial⟩
  rintro ⟨i, hi1, hi2⟩
  dsimp only at hi1 hi2 ⊢
  conv => whnf
  rw [l1]
  refine br_intro (fun h9 => ?_) (fun h9 => ?_) <;> (rw [h9]; conv => whnf)
  · have hlt : i < l.length := by have := of_decide_eq_true h9; omega
    refine ⟨by omega, nthK_intro (g1 i l[i] (List.getElem?_eq_getElem hlt)) ?_⟩
    conv => whnf
    have hmem : l[i] ∈ l := List.getElem_mem hlt
    have htk : l.take (i + 1) = l.take i ++ [l[i]] := by rw [List.take_add_one, List.getElem?_eq_getElem hlt]; rfl
    have hE : mayE l[i] = (wi (l[i]).term 1 big && decide ((l[i]).data.length ≤ 4000)) := rfl
    refine ⟨_, rwithin_law (l[i]).term 1 big, ?_⟩
    conv => whnf
    cases w1 : wi (l[i]).term 1 big with
    | false =>
      conv => whnf
      exact .inl (congrArg tb (no (fun h => by have := (hL.1 h.2.2.2.2.2.2.1).2.2 _ hmem; rw [hE, w1] at this; cases this)).symm)
    | true =>
    conv => whnf
    refine ⟨by omega, nthK_intro (g1 i l[i] (List.getElem?_eq_getElem hlt)) ?_⟩
    conv => whnf
    rw [sizeD]
    refine br_intro (fun h => ?_) (fun h => ?_) <;> (rw [h]; conv => whnf)
    · have hq := of_decide_eq_true h
      exact .inl (congrArg tb (no (fun h => by have := (hL.1 h.2.2.2.2.2.2.1).2.2 _ hmem; rw [hE, decide_eq_false (by omega), Bool.and_false] at this; cases this)).symm)
    · have hq := of_decide_eq_false h
      refine Nx.intro ⟨i + 1, hlt, fun x hx => ?_⟩ (by dsimp only; omega) ?_
      · rw [htk] at hx
        rcases List.mem_append.1 hx with hx | hx
        · exact hi2 x hx
        · rw [List.mem_singleton.1 hx, hE, w1, decide_eq_true (by omega)]; rfl
      exact Wk.intro [] rfl (fun p hp => by cases hp) ⟨.same rfl (by exact rfl), .same (congrArg i64 (by rw [wrap_i64 _ (by omega) (by omega)]; rfl)) trivial, trivial⟩ ⟨⟨rfl, .inl ⟨rfl, mail_lt _ _ _ _ _ _ _ _ _ _ _ _⟩⟩, trivial⟩
  obtain rfl : i = l.length := by have := of_decide_eq_false h9; omega
  rw [List.take_length] at hi2
  have hEs := hi2
  refine br_intro (fun h6 => ?_) (fun h6 => ?_) <;> (rw [h6]; conv => whnf)
  · rw [l2]
    refine br_intro (fun h7 => ?_) (fun h7 => ?_) <;> (rw [h7]; conv => whnf)
    · exact .inl (congrArg tb (no (fun h => by have h6 := of_decide_eq_true h6; have h7 := of_decide_eq_true h7; exact (hJ.1 h.2.2.2.2.2.2.2.2).1.elim (fun g => by omega) (fun g => by rw [g] at h7; simp at h7))).symm)
    have hkj : 8 ≤ k ∨ j = [] := .inr (List.length_eq_zero_iff.1 (by have := of_decide_eq_false h7; omega))
    rw [l2]
    refine br_intro (fun h8 => ?_) (fun h8 => ?_) <;> (rw [h8]; conv => whnf)
    · exact .inl (congrArg tb (no (fun h => by have := (hJ.1 h.2.2.2.2.2.2.2.2).2.1; have := of_decide_eq_true h8; omega)).symm)
    replace h8 := of_decide_eq_false h8
    refine loop_intro (fun y : { i : Nat // i ≤ j.length ∧ ∀ x ∈ j.take i, mayJ x = true } =>
      ⟨[(1, .ptr 0 0 0), (7, i64 (y.1 : Nat))], [(0, .own 11 [[i64 k, i64 t, i64 a, i64 b, i64 c, i64 d, .sl none 2 RL, i64 si, i64 st, ts sd, .sl none 7 RJ]])], 175, 3, []⟩) (fun y => j.length - y.1) ⟨0, Nat.zero_le _, by simp⟩ ?_ ?_
    · exact Wk.intro [] rfl (fun p hp => by cases hp) ⟨.same rfl (by exact rfl), .same rfl trivial, trivial⟩ ⟨⟨rfl, .inl ⟨rfl, mail_lt _ _ _ _ _ _ _ _ _ _ _ _⟩⟩, trivial⟩
    rintro ⟨i, hi1, hi2⟩
    dsimp only at hi1 hi2 ⊢
    conv => whnf
    rw [l2]
    refine br_intro (fun h9 => ?_) (fun h9 => ?_) <;> (rw [h9]; conv => whnf)
    · have hlt : i < j.length := by have := of_decide_eq_true h9; omega
      refine ⟨by omega, nthK_intro (g2 i j[i] (List.getElem?_eq_getElem hlt)) ?_⟩
      conv => whnf
      have hmem : j[i] ∈ j := List.getElem_mem hlt
      have htk : j.take (i + 1) = j.take i ++ [j[i]] := by rw [List.take_add_one, List.getElem?_eq_getElem hlt]; rfl
      refine ⟨_, rjob_law j[i] (hj _ hmem), ?_⟩
      conv => whnf
      refine br_intro (fun h => ?_) (fun h => ?_) <;> (rw [h]; conv => whnf)
      · have hq : mayJ j[i] = false := nt h
        exact .inl (congrArg tb (no (fun h => by have := (hJ.1 h.2.2.2.2.2.2.2.2).2.2 _ hmem; rw [hq] at this; cases this)).symm)
      · have hq : mayJ j[i] = true := nf h
        refine Nx.intro ⟨i + 1, hlt, fun x hx => ?_⟩ (by dsimp only; omega) ?_
        · rw [htk] at hx
          rcases List.mem_append.1 hx with hx | hx
          · exact hi2 x hx
          · rw [List.mem_singleton.1 hx]; exact hq
        exact Wk.intro [] rfl (fun p hp => by cases hp) ⟨.same rfl (by exact rfl), .same (congrArg i64 (by rw [wrap_i64 _ (by omega) (by omega)]; rfl)) trivial, trivial⟩ ⟨⟨rfl, .inl ⟨rfl, mail_lt _ _ _ _ _ _ _ _ _ _ _ _⟩⟩, trivial⟩
    obtain rfl : i = j.length := by have := of_decide_eq_false h9; omega
    rw [List.take_length] at hi2
    have hJs := hi2
    have all : ∀ q : Bool, mayS ⟨k, t, a, b, c, d, l, si, st, sd, j⟩ = q → R = q := by
      intro q hq
      cases q with
      | true => exact hm.2 ⟨wi_iff.2 ⟨by omega, by omega⟩, h3, q0, q1, q2, q3, hL.2 ⟨hkl, by omega, hEs⟩, hq, hJ.2 ⟨hkj, by omega, hJs⟩⟩
      | false => exact no (fun h => by rw [hq] at h; simp at h)
    by_cases k5 : k = 5
    · rw [bq k5]
      conv => whnf
      rw [if_pos k5] at hS
      refine ⟨_, rwithin_law si 1 big, ?_⟩
      conv => whnf
      cases w1 : wi si 1 big with
      | false =>
        conv => whnf
        exact .inl (congrArg tb (all false (by rw [hS, w1]; rfl)).symm)
      | true =>
        conv => whnf
        refine ⟨_, rwithin_law st 1 big, ?_⟩
        conv => whnf
        cases w2 : wi st 1 big with
        | false =>
          conv => whnf
          exact .inl (congrArg tb (all false (by rw [hS, w1, w2]; rfl)).symm)
        | true =>
          conv => whnf
          exact .inl (congrArg tb (all _ (by rw [hS, w1, w2, sizeD, leA]; rfl)).symm)
    rw [bn k5]
    rw [if_neg k5] at hS
    conv => whnf
    have key : ∀ tx : Bool, tx = decide (k = 6 ∨ k = 7) → R = (si == 0 && (st == 0 && (decide (sd.length ≤ 4000) && (tx || decide (sd = []))))) := by
      intro tx htx
      refine all _ ?_
      rw [hS, htx]
      by_cases h67 : k = 6 ∨ k = 7
      · rw [if_pos h67, decide_eq_true h67, Bool.true_or, Bool.and_true, ← decB si, ← decB st]
      · rw [if_neg h67, decide_eq_false h67, Bool.false_or, ← decB si, ← decB st]
        by_cases hsd : sd = []
        · rw [hsd]; simp
        · rw [decide_eq_false hsd]; simp
    by_cases k6 : k = 6
    · rw [bq k6]
      conv => whnf
      have key := key true (by rw [decide_eq_true (.inl k6)])
      repeat' (first
        | (refine br_intro (fun h => ?_) (fun h => ?_) <;> (rw [h]; conv => whnf)))
      all_goals (refine .inl (congrArg tb ?_); rw [key]; simp only [sizeD, leB, emptyD] at *; simp only [*, Bool.true_and, Bool.false_and, Bool.and_true, Bool.and_false, Bool.true_or, Bool.false_or])
    rw [bn k6]
    conv => whnf
    by_cases k7 : k = 7
    · rw [bq k7]
      conv => whnf
      have key := key true (by rw [decide_eq_true (.inr k7)])
      repeat' (first
        | (refine br_intro (fun h => ?_) (fun h => ?_) <;> (rw [h]; conv => whnf)))
      all_goals (refine .inl (congrArg tb ?_); rw [key]; simp only [sizeD, leB, emptyD] at *; simp only [*, Bool.true_and, Bool.false_and, Bool.and_true, Bool.and_false, Bool.true_or, Bool.false_or])
    rw [bn k7]
    conv => whnf
    have key := key false (by rw [decide_eq_false (by omega)])
    repeat' (first
      | (refine br_intro (fun h => ?_) (fun h => ?_) <;> (rw [h]; conv => whnf)))
    all_goals (refine .inl (congrArg tb ?_); rw [key]; simp only [sizeD, leB, emptyD] at *; simp only [*, Bool.true_and, Bool.false_and, Bool.and_true, Bool.and_false, Bool.true_or, Bool.false_or])
  have hkj : 8 ≤ k ∨ j = [] := .inl (by have := of_decide_eq_false h6; omega)
  rw [l2]
  refine br_intro (fun h8 => ?_) (fun h8 => ?_) <;> (rw [h8]; conv => whnf)
  · exact .inl (congrArg tb (no (fun h => by have := (hJ.1 h.2.2.2.2.2.2.2.2).2.1; have := of_decide_eq_true h8; omega)).symm)
  replace h8 := of_decide_eq_false h8
  refine loop_intro (fun y : { i : Nat // i ≤ j.length ∧ ∀ x ∈ j.take i, mayJ x = true } =>
    ⟨[(1, .ptr 0 0 0), (7, i64 (y.1 : Nat))], [(0, .own 11 [[i64 k, i64 t, i64 a, i64 b, i64 c, i64 d, .sl none 2 RL, i64 si, i64 st, ts sd, .sl none 7 RJ]])], 175, 3, []⟩) (fun y => j.length - y.1) ⟨0, Nat.zero_le _, by simp⟩ ?_ ?_
  · exact Wk.intro [] rfl (fun p hp => by cases hp) ⟨.same rfl (by exact rfl), .same rfl trivial, trivial⟩ ⟨⟨rfl, .inl ⟨rfl, mail_lt _ _ _ _ _ _ _ _ _ _ _ _⟩⟩, trivial⟩
  rintro ⟨i, hi1, hi2⟩
  dsimp only at hi1 hi2 ⊢
  conv => whnf
  rw [l2]
  refine br_intro (fun h9 => ?_) (fun h9 => ?_) <;> (rw [h9]; conv => whnf)
  · have hlt : i < j.length := by have := of_decide_eq_true h9; omega
    refine ⟨by omega, nthK_intro (g2 i j[i] (List.getElem?_eq_getElem hlt)) ?_⟩
    conv => whnf
    have hmem : j[i] ∈ j := List.getElem_mem hlt
    have htk : j.take (i + 1) = j.take i ++ [j[i]] := by rw [List.take_add_one, List.getElem?_eq_getElem hlt]; rfl
    refine ⟨_, rjob_law j[i] (hj _ hmem), ?_⟩
    conv => whnf
    refine br_intro (fun h => ?_) (fun h => ?_) <;> (rw [h]; conv => whnf)
    · have hq : mayJ j[i] = false := nt h
      exact .inl (congrArg tb (no (fun h => by have := (hJ.1 h.2.2.2.2.2.2.2.2).2.2 _ hmem; rw [hq] at this; cases this)).symm)
    · have hq : mayJ j[i] = true := nf h
      refine Nx.intro ⟨i + 1, hlt, fun x hx => ?_⟩ (by dsimp only; omega) ?_
      · rw [htk] at hx
        rcases List.mem_append.1 hx with hx | hx
        · exact hi2 x hx
        · rw [List.mem_singleton.1 hx]; exact hq
      exact Wk.intro [] rfl (fun p hp => by cases hp) ⟨.same rfl (by exact rfl), .same (congrArg i64 (by rw [wrap_i64 _ (by omega) (by omega)]; rfl)) trivial, trivial⟩ ⟨⟨rfl, .inl ⟨rfl, mail_lt _ _ _ _ _ _ _ _ _ _ _ _⟩⟩, trivial⟩
  obtain rfl : i = j.length := by have := of_decide_eq_false h9; omega
  rw [List.take_length] at hi2
  have hJs := hi2
  have all : ∀ q : Bool, mayS ⟨k, t, a, b, c, d, l, si, st, sd, j⟩ = q → R = q := by
    intro q hq
    cases q with
    | true => exact hm.2 ⟨wi_iff.2 ⟨by omega, by omega⟩, h3, q0, q1, q2, q3, hL.2 ⟨hkl, by omega, hEs⟩, hq, hJ.2 ⟨hkj, by omega, hJs⟩⟩
    | false => exact no (fun h => by rw [hq] at h; simp at h)
  by_cases k5 : k = 5
  · rw [bq k5]
    conv => whnf
    rw [if_pos k5] at hS
    refine ⟨_, rwithin_law si 1 big, ?_⟩
    conv => whnf
    cases w1 : wi si 1 big with
    | false =>
      conv => whnf
      exact .inl (congrArg tb (all false (by rw [hS, w1]; rfl)).symm)
    | true =>
      conv => whnf
      refine ⟨_, rwithin_law st 1 big, ?_⟩
      conv => whnf
      cases w2 : wi st 1 big with
      | false =>
        conv => whnf
        exact .inl (congrArg tb (all false (by rw [hS, w1, w2]; rfl)).symm)
      | true =>
        conv => whnf
        exact .inl (congrArg tb (all _ (by rw [hS, w1, w2, sizeD, leA]; rfl)).symm)
  rw [bn k5]
  rw [if_neg k5] at hS
  conv => whnf
  have key : ∀ tx : Bool, tx = decide (k = 6 ∨ k = 7) → R = (si == 0 && (st == 0 && (decide (sd.length ≤ 4000) && (tx || decide (sd = []))))) := by
    intro tx htx
    refine all _ ?_
    rw [hS, htx]
    by_cases h67 : k = 6 ∨ k = 7
    · rw [if_pos h67, decide_eq_true h67, Bool.true_or, Bool.and_true, ← decB si, ← decB st]
    · rw [if_neg h67, decide_eq_false h67, Bool.false_or, ← decB si, ← decB st]
      by_cases hsd : sd = []
      · rw [hsd]; simp
      · rw [decide_eq_false hsd]; simp
  by_cases k6 : k = 6
  · rw [bq k6]
    conv => whnf
    have key := key true (by rw [decide_eq_true (.inl k6)])
    repeat' (first
      | (refine br_intro (fun h => ?_) (fun h => ?_) <;> (rw [h]; conv => whnf)))
    all_goals (refine .inl (congrArg tb ?_); rw [key]; simp only [sizeD, leB, emptyD] at *; simp only [*, Bool.true_and, Bool.false_and, Bool.and_true, Bool.and_false, Bool.true_or, Bool.false_or])
  rw [bn k6]
  conv => whnf
  by_cases k7 : k = 7
  · rw [bq k7]
    conv => whnf
    have key := key true (by rw [decide_eq_true (.inr k7)])
    repeat' (first
      | (refine br_intro (fun h => ?_) (fun h => ?_) <;> (rw [h]; conv => whnf)))
    all_goals (refine .inl (congrArg tb ?_); rw [key]; simp only [sizeD, leB, emptyD] at *; simp only [*, Bool.true_and, Bool.false_and, Bool.and_true, Bool.and_false, Bool.true_or, Bool.false_or])
  rw [bn k7]
  conv => whnf
  have key := key false (by rw [decide_eq_false (by omega)])
  repeat' (first
    | (refine br_intro (fun h => ?_) (fun h => ?_) <;> (rw [h]; conv => whnf)))
  all_goals (refine .inl (congrArg tb ?_); rw [key]; simp only [sizeD, leB, emptyD] at *; simp only [*, Bool.true_and, Bool.false_and, Bool.and_true, Bool.and_false, Bool.true_or, Bool.false_or])
end Go.AW.Ml
