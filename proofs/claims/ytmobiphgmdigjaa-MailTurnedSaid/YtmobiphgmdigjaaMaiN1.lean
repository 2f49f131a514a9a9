import Derived.Test.YtmobiphgmdigjaaMaiG1
import Derived.Test.YtmobiphgmdigjaaCmdP1
/- Mails: their form, walked. -/
set_option linter.unusedVariables false
set_option linter.unusedSimpArgs false
namespace Go.AW.Ml
open Go Go.AW Go.AW.Wir Go.AW.Cm Go.Proofs
set_option maxRecDepth 10000
set_option pp.maxSteps 60

theorem within_law (n lo hi : Int) : FCv Try.prog 30 [i64 n, i64 lo, i64 hi] (tb (wi n lo hi)) := by
  unfold wi
  obtain ⟨A, hA⟩ : ∃ A, decide (lo ≤ n) = A := ⟨_, rfl⟩
  obtain ⟨B, hB⟩ : ∃ B, decide (n ≤ hi) = B := ⟨_, rfl⟩
  rw [hA, hB]
  refine FCv_of_awp (fn := Try.f30) (c := bodyC Try.f30) Try.func30 rfl (of_decide_eq_true rfl) [] ?_
  conv => whnf
  rw [show decide (n ≥ lo) = A from hA]
  cases A with
  | false => conv => whnf
             exact .inl rfl
  | true => conv => whnf
            exact .inl (congrArg tb hB)
theorem rwithin_law (n lo hi : Int) : FCv Try.prog 34 [i64 n, i64 lo, i64 hi] (tb (wi n lo hi)) := by
  unfold wi
  obtain ⟨A, hA⟩ : ∃ A, decide (lo ≤ n) = A := ⟨_, rfl⟩
  obtain ⟨B, hB⟩ : ∃ B, decide (n ≤ hi) = B := ⟨_, rfl⟩
  rw [hA, hB]
  refine FCv_of_awp (fn := Try.f34) (c := bodyC Try.f34) Try.func34 rfl (of_decide_eq_true rfl) [] ?_
  conv => whnf
  rw [show decide (n ≥ lo) = A from hA]
  cases A with
  | false => conv => whnf
             exact .inl rfl
  | true => conv => whnf
            exact .inl (congrArg tb hB)
theorem bit_law (n : Int) : FCv Try.prog 26 [i64 n] (tb (wi n 0 1)) := by
  refine FCv_of_awp (fn := Try.f26) (c := bodyC Try.f26) Try.func26 rfl (of_decide_eq_true rfl) [] ?_
  conv => whnf
  by_cases h : n = 0
  · rw [bq h]
    conv => whnf
    exact .inl (congrArg tb (by unfold wi; rw [decide_eq_true (by omega), decide_eq_true (by omega)]; rfl))
  · rw [bn h]
    conv => whnf
    refine .inl (congrArg tb ?_)
    unfold wi
    rw [Bool.eq_iff_iff, beq_iff_eq, Bool.and_eq_true, decide_eq_true_eq, decide_eq_true_eq]
    omega
theorem idx1 (n : Int) : FCv Try.prog 49 [i64 n] (tb (!wi n 0 big)) := by
  refine FCv_of_awp (fn := Try.f49) (c := bodyC Try.f49) Try.func49 rfl (of_decide_eq_true rfl) [] ?_
  conv => whnf
  refine ⟨_, within_law n 0 big, ?_⟩
  conv => whnf
  exact .inl rfl
/-- The first thing that a test takes; below 0: none. -/
def find {α : Type} (p : α → Bool) : List α → Int → Int
  | [], _ => -1
  | x :: r, k => bif p x then k else find p r (k + 1)
theorem find_rng {α : Type} (p : α → Bool) : ∀ (l : List α) (k : Int), 0 ≤ k → (find p l k < 0 ↔ l.all (fun x => !p x) = true)
  | [], k, h => by simp [find]
  | x :: r, k, h => by
    simp only [find, List.all_cons]
    cases hx : p x with
    | true => simp; omega
    | false =>
      simp only [cond_false, Bool.not_false, Bool.true_and]
      exact find_rng p r (k + 1) (by omega)
theorem ifi_num (l : List Int) (hl : l.length ≤ 9223372036854775806) : FCv Try.prog 61 [.sl none 1 (l.map fun x => [i64 x]), .clo 49 []] (i64 (find (fun x => !wi x 0 big) l 0)) := by
  obtain ⟨R, hR⟩ : ∃ R, (l.map fun x => [i64 x]) = R := ⟨_, rfl⟩
  have hlen : R.length = l.length := by rw [← hR, List.length_map]
  have hget : ∀ (j : Nat) (x : Int), l[j]? = some x → R[j]? = some ([i64 x]) := fun j x h => by rw [← hR, List.getElem?_map, h]; rfl
  rw [hR]
  clear hR
  refine FCv_of_awp (fn := Try.f61) (c := bodyC Try.f61) Try.func61 rfl (of_decide_eq_true rfl) [] ?_
  conv => whnf
  rw [hlen]
  refine loop_intro (fun y : { j : Nat // j ≤ l.length ∧ find (fun x => !wi x 0 big) l 0 = find (fun x => !wi x 0 big) (l.drop j) (j : Nat) } =>
    ⟨[(0, .sl none 1 R), (1, .clo 49 []), (7, i64 (l.length : Nat)), (8, i64 (y.1 : Nat))], [], 19, 0, []⟩) (fun y => l.length - y.1) ⟨0, Nat.zero_le _, rfl⟩ ?_ ?_
  · exact Wk.intro [] rfl (fun p hp => by cases hp) ⟨.same rfl trivial, .same rfl (by intro c hc; cases hc), .same rfl trivial, .same rfl trivial, trivial⟩ trivial
  rintro ⟨j, g1, g2⟩
  dsimp only at g1 g2 ⊢
  conv => whnf
  refine br_intro (fun h1 => ?_) (fun h1 => ?_) <;> (rw [h1]; conv => whnf)
  · have hj : j < l.length := by have := of_decide_eq_true h1; omega
    refine ⟨by omega, nthK_intro (hget j l[j] (List.getElem?_eq_getElem hj)) ?_⟩
    conv => whnf
    have hdr : l.drop j = l[j] :: l.drop (j + 1) := List.drop_eq_getElem_cons hj
    rw [hdr] at g2
    simp only [find] at g2
    obtain ⟨x, hx⟩ : ∃ x, l[j] = x := ⟨_, rfl⟩
    have hmem : x ∈ l := hx ▸ List.getElem_mem hj
    rw [hx] at g2 ⊢
    refine ⟨_, idx1 x, ?_⟩
    cases hp : wi x 0 big with
    | true =>
      rw [hp] at g2
      conv => whnf
      refine Nx.intro ⟨j + 1, hj, g2⟩ (by dsimp only; omega) ?_
      exact Wk.intro [] rfl (fun p hp => by cases hp) ⟨.same rfl trivial, .same rfl (by intro c hc; cases hc), .same rfl trivial, .same (congrArg i64 (by rw [wrap_i64 _ (by omega) (by omega)]; rfl)) trivial, trivial⟩ trivial
    | false =>
      rw [hp] at g2
      conv => whnf
      exact .inl (congrArg i64 g2.symm)
  · obtain rfl : j = l.length := by have := of_decide_eq_false h1; omega
    rw [List.drop_length] at g2
    exact .inl (congrArg i64 g2.symm)
theorem cf_num (l : List Int) (hl : l.length ≤ 9223372036854775806) : FCv Try.prog 48 [.sl none 1 (l.map fun x => [i64 x]), .clo 49 []] (tb (!l.all fun x => wi x 0 big)) := by
  have h := ifi_num l hl
  have hr := find_rng (fun x => !wi x 0 big) l 0 (by decide)
  obtain ⟨q, hq⟩ : ∃ q, find (fun x => !wi x 0 big) l 0 = q := ⟨_, rfl⟩
  rw [hq] at h hr
  obtain ⟨R, hR⟩ : ∃ R, (l.map fun x => [i64 x]) = R := ⟨_, rfl⟩
  rw [hR] at h ⊢
  refine FCv_of_awp (fn := Try.f48) (c := bodyC Try.f48) Try.func48 rfl (of_decide_eq_true rfl) [] ?_
  conv => whnf
  refine ⟨_, h, ?_⟩
  conv => whnf
  refine .inl (congrArg tb ?_)
  simp only [Bool.not_not] at hr
  rw [Bool.eq_iff_iff, decide_eq_true_eq, Bool.not_eq_true', ← Bool.not_eq_true, ← hr]
  omega
theorem index_law (l : List Int) (hl : l.length ≤ 9223372036854775806) : FCv Try.prog 25 [.sl none 1 (l.map fun x => [i64 x])] (tb (l.all fun x => wi x 0 big)) := by
  have h := cf_num l hl
  obtain ⟨R, hR⟩ : ∃ R, (l.map fun x => [i64 x]) = R := ⟨_, rfl⟩
  rw [hR] at h ⊢
  refine FCv_of_awp (fn := Try.f25) (c := bodyC Try.f25) Try.func25 rfl (of_decide_eq_true rfl) [] ?_
  conv => whnf
  refine ⟨_, h, ?_⟩
  conv => whnf
  exact .inl (congrArg tb (Bool.not_not _))
theorem index1 (n : Int) : FCv Try.prog 25 [.sl none 1 [[i64 n]]] (tb (wi n 0 big)) := by
  have := index_law [n] (by simp)
  simp only [List.map_cons, List.map_nil, List.all_cons, List.all_nil, Bool.and_true] at this
  exact this
theorem index2 (n m : Int) : FCv Try.prog 25 [.sl none 1 [[i64 n], [i64 m]]] (tb (wi n 0 big && wi m 0 big)) := by
  have := index_law [n, m] (by simp)
  simp only [List.map_cons, List.map_nil, List.all_cons, List.all_nil, Bool.and_true] at this
  exact this
/-- The cells of an entry, of a job, of a mail. -/
abbrev eC (x : Entry) : List T := [i64 x.term, ts x.data]
abbrev jC (x : Job) : List T := [ts x.name, ts x.tenant, i64 x.v.1, i64 x.v.2.1, i64 x.v.2.2, ts x.node, i64 x.status]
def mC (m : Mail) : List T := [i64 m.kind, i64 m.term, i64 m.a, i64 m.b, i64 m.c, i64 m.d, .sl none 2 (m.l.map fun x => eC x), i64 m.si, i64 m.st, ts m.sd, .sl none 7 (m.j.map fun x => jC x)]
theorem entry_law (x : Entry) : FCv Try.prog 29 [.agg (eC x)] (tb (mayE x)) := by
  have h := within_law x.term 1 big
  unfold mayE
  obtain ⟨A, hA⟩ : ∃ A, wi x.term 1 big = A := ⟨_, rfl⟩
  rw [hA] at h ⊢
  refine FCv_of_awp (fn := Try.f29) (c := bodyC Try.f29) Try.func29 rfl (of_decide_eq_true rfl) [] ?_
  conv => whnf
  refine ⟨_, h, ?_⟩
  conv => whnf
  cases A with
  | false => conv => whnf
             exact .inl rfl
  | true => conv => whnf
            exact .inl (congrArg tb (by rw [sizeD]; exact decide_eq_decide.2 (by omega)))
theorem entry1 (x : Entry) : FCv Try.prog 28 [.agg (eC x)] (tb (!mayE x)) := by
  refine FCv_of_awp (fn := Try.f28) (c := bodyC Try.f28) Try.func28 rfl (of_decide_eq_true rfl) [] ?_
  conv => whnf
  refine ⟨_, entry_law x, ?_⟩
  conv => whnf
  exact .inl rfl
theorem job_law (x : Job) (h : inJ x) : FCv Try.prog 33 [.agg (jC x)] (tb (mayJ x)) := by
  have h1 := nmay x.name (Nat.le_trans h.1 (by decide))
  have h2 := nmay x.tenant (Nat.le_trans h.2.1 (by decide))
  have h3 := nmay x.node (Nat.le_trans h.2.2.2.1 (by decide))
  have h4 := vmay_law x.v
  have h5 := within_law x.status 0 2
  unfold mayJ
  obtain ⟨A, hA⟩ : ∃ A, Nam.may x.name = A := ⟨_, rfl⟩
  obtain ⟨B, hB⟩ : ∃ A, Nam.may x.tenant = A := ⟨_, rfl⟩
  obtain ⟨C, hC⟩ : ∃ A, Nam.may x.node = A := ⟨_, rfl⟩
  obtain ⟨D, hD⟩ : ∃ A, mayV x.v = A := ⟨_, rfl⟩
  rw [hA] at h1 ⊢
  rw [hB] at h2 ⊢
  rw [hC] at h3 ⊢
  rw [hD] at h4 ⊢
  change FCv _ _ [.agg [i64 x.v.1, i64 x.v.2.1, i64 x.v.2.2]] _ at h4
  refine FCv_of_awp (fn := Try.f33) (c := bodyC Try.f33) Try.func33 rfl (of_decide_eq_true rfl) [] ?_
  conv => whnf
  refine ⟨_, h1, ?_⟩
  conv => whnf
  cases A with
  | false => conv => whnf
             exact .inl rfl
  | true =>
    conv => whnf
    refine ⟨_, h2, ?_⟩
    conv => whnf
    cases B with
    | false => conv => whnf
               exact .inl rfl
    | true =>
      conv => whnf
      refine ⟨_, h3, ?_⟩
      conv => whnf
      cases C with
      | false => conv => whnf
                 exact .inl rfl
      | true =>
        conv => whnf
        refine ⟨_, h4, ?_⟩
        conv => whnf
        cases D with
        | false => conv => whnf
                   exact .inl rfl
        | true =>
          conv => whnf
          refine ⟨_, h5, ?_⟩
          conv => whnf
          exact .inl rfl
theorem rjob_law (x : Job) (h : inJ x) : FCv Try.prog 36 [.agg (jC x)] (tb (mayJ x)) := by
  have h1 := nrmay x.name (Nat.le_trans h.1 (by decide))
  have h2 := nrmay x.tenant (Nat.le_trans h.2.1 (by decide))
  have h3 := nrmay x.node (Nat.le_trans h.2.2.2.1 (by decide))
  have h4 := rvmay_law x.v
  have h5 := rwithin_law x.status 0 2
  unfold mayJ
  obtain ⟨A, hA⟩ : ∃ A, Nam.may x.name = A := ⟨_, rfl⟩
  obtain ⟨B, hB⟩ : ∃ A, Nam.may x.tenant = A := ⟨_, rfl⟩
  obtain ⟨C, hC⟩ : ∃ A, Nam.may x.node = A := ⟨_, rfl⟩
  obtain ⟨D, hD⟩ : ∃ A, mayV x.v = A := ⟨_, rfl⟩
  rw [hA] at h1 ⊢
  rw [hB] at h2 ⊢
  rw [hC] at h3 ⊢
  rw [hD] at h4 ⊢
  change FCv _ _ [.agg [i64 x.v.1, i64 x.v.2.1, i64 x.v.2.2]] _ at h4
  refine FCv_of_awp (fn := Try.f36) (c := bodyC Try.f36) Try.func36 rfl (of_decide_eq_true rfl) [] ?_
  conv => whnf
  refine ⟨_, h1, ?_⟩
  conv => whnf
  cases A with
  | false => conv => whnf
             exact .inl rfl
  | true =>
    conv => whnf
    refine ⟨_, h2, ?_⟩
    conv => whnf
    cases B with
    | false => conv => whnf
               exact .inl rfl
    | true =>
      conv => whnf
      refine ⟨_, h3, ?_⟩
      conv => whnf
      cases C with
      | false => conv => whnf
                 exact .inl rfl
      | true =>
        conv => whnf
        refine ⟨_, h4, ?_⟩
        conv => whnf
        cases D with
        | false => conv => whnf
                   exact .inl rfl
        | true =>
          conv => whnf
          refine ⟨_, h5, ?_⟩
          conv => whnf
          exact .inl rfl
theorem job1 (x : Job) (h : inJ x) : FCv Try.prog 32 [.agg (jC x)] (tb (!mayJ x)) := by
  refine FCv_of_awp (fn := Try.f32) (c := bodyC Try.f32) Try.func32 rfl (of_decide_eq_true rfl) [] ?_
  conv => whnf
  refine ⟨_, job_law x h, ?_⟩
  conv => whnf
  exact .inl rfl
theorem ifi_ent (l : List Entry) (hl : l.length ≤ 9223372036854775806) : FCv Try.prog 50 [.sl none 2 (l.map fun x => eC x), .clo 28 []] (i64 (find (fun x => !mayE x) l 0)) := by
  obtain ⟨R, hR⟩ : ∃ R, (l.map fun x => eC x) = R := ⟨_, rfl⟩
  have hlen : R.length = l.length := by rw [← hR, List.length_map]
  have hget : ∀ (j : Nat) (x : Entry), l[j]? = some x → R[j]? = some (eC x) := fun j x h => by rw [← hR, List.getElem?_map, h]; rfl
  rw [hR]
  clear hR
  refine FCv_of_awp (fn := Try.f50) (c := bodyC Try.f50) Try.func50 rfl (of_decide_eq_true rfl) [] ?_
  conv => whnf
  rw [hlen]
  refine loop_intro (fun y : { j : Nat // j ≤ l.length ∧ find (fun x => !mayE x) l 0 = find (fun x => !mayE x) (l.drop j) (j : Nat) } =>
    ⟨[(0, .sl none 2 R), (1, .clo 28 []), (7, i64 (l.length : Nat)), (8, i64 (y.1 : Nat))], [], 19, 0, []⟩) (fun y => l.length - y.1) ⟨0, Nat.zero_le _, rfl⟩ ?_ ?_
  · exact Wk.intro [] rfl (fun p hp => by cases hp) ⟨.same rfl trivial, .same rfl (by intro c hc; cases hc), .same rfl trivial, .same rfl trivial, trivial⟩ trivial
  rintro ⟨j, g1, g2⟩
  dsimp only at g1 g2 ⊢
  conv => whnf
  refine br_intro (fun h1 => ?_) (fun h1 => ?_) <;> (rw [h1]; conv => whnf)
  · have hj : j < l.length := by have := of_decide_eq_true h1; omega
    refine ⟨by omega, nthK_intro (hget j l[j] (List.getElem?_eq_getElem hj)) ?_⟩
    conv => whnf
    have hdr : l.drop j = l[j] :: l.drop (j + 1) := List.drop_eq_getElem_cons hj
    rw [hdr] at g2
    simp only [find] at g2
    obtain ⟨x, hx⟩ : ∃ x, l[j] = x := ⟨_, rfl⟩
    have hmem : x ∈ l := hx ▸ List.getElem_mem hj
    rw [hx] at g2 ⊢
    refine ⟨_, entry1 x, ?_⟩
    cases hp : mayE x with
    | true =>
      rw [hp] at g2
      conv => whnf
      refine Nx.intro ⟨j + 1, hj, g2⟩ (by dsimp only; omega) ?_
      exact Wk.intro [] rfl (fun p hp => by cases hp) ⟨.same rfl trivial, .same rfl (by intro c hc; cases hc), .same rfl trivial, .same (congrArg i64 (by rw [wrap_i64 _ (by omega) (by omega)]; rfl)) trivial, trivial⟩ trivial
    | false =>
      rw [hp] at g2
      conv => whnf
      exact .inl (congrArg i64 g2.symm)
  · obtain rfl : j = l.length := by have := of_decide_eq_false h1; omega
    rw [List.drop_length] at g2
    exact .inl (congrArg i64 g2.symm)
theorem cf_ent (l : List Entry) (hl : l.length ≤ 9223372036854775806) : FCv Try.prog 27 [.sl none 2 (l.map fun x => eC x), .clo 28 []] (tb (!l.all fun x => mayE x)) := by
  have h := ifi_ent l hl
  have hr := find_rng (fun x => !mayE x) l 0 (by decide)
  obtain ⟨q, hq⟩ : ∃ q, find (fun x => !mayE x) l 0 = q := ⟨_, rfl⟩
  rw [hq] at h hr
  obtain ⟨R, hR⟩ : ∃ R, (l.map fun x => eC x) = R := ⟨_, rfl⟩
  rw [hR] at h ⊢
  refine FCv_of_awp (fn := Try.f27) (c := bodyC Try.f27) Try.func27 rfl (of_decide_eq_true rfl) [] ?_
  conv => whnf
  refine ⟨_, h, ?_⟩
  conv => whnf
  refine .inl (congrArg tb ?_)
  simp only [Bool.not_not] at hr
  rw [Bool.eq_iff_iff, decide_eq_true_eq, Bool.not_eq_true', ← Bool.not_eq_true, ← hr]
  omega
theorem ifi_job (l : List Job) (h : ∀ x ∈ l, inJ x) (hl : l.length ≤ 9223372036854775806) : FCv Try.prog 51 [.sl none 7 (l.map fun x => jC x), .clo 32 []] (i64 (find (fun x => !mayJ x) l 0)) := by
  obtain ⟨R, hR⟩ : ∃ R, (l.map fun x => jC x) = R := ⟨_, rfl⟩
  have hlen : R.length = l.length := by rw [← hR, List.length_map]
  have hget : ∀ (j : Nat) (x : Job), l[j]? = some x → R[j]? = some (jC x) := fun j x h => by rw [← hR, List.getElem?_map, h]; rfl
  rw [hR]
  clear hR
  refine FCv_of_awp (fn := Try.f51) (c := bodyC Try.f51) Try.func51 rfl (of_decide_eq_true rfl) [] ?_
  conv => whnf
  rw [hlen]
  refine loop_intro (fun y : { j : Nat // j ≤ l.length ∧ find (fun x => !mayJ x) l 0 = find (fun x => !mayJ x) (l.drop j) (j : Nat) } =>
    ⟨[(0, .sl none 7 R), (1, .clo 32 []), (7, i64 (l.length : Nat)), (8, i64 (y.1 : Nat))], [], 19, 0, []⟩) (fun y => l.length - y.1) ⟨0, Nat.zero_le _, rfl⟩ ?_ ?_
  · exact Wk.intro [] rfl (fun p hp => by cases hp) ⟨.same rfl trivial, .same rfl (by intro c hc; cases hc), .same rfl trivial, .same rfl trivial, trivial⟩ trivial
  rintro ⟨j, g1, g2⟩
  dsimp only at g1 g2 ⊢
  conv => whnf
  refine br_intro (fun h1 => ?_) (fun h1 => ?_) <;> (rw [h1]; conv => whnf)
  · have hj : j < l.length := by have := of_decide_eq_true h1; omega
    refine ⟨by omega, nthK_intro (hget j l[j] (List.getElem?_eq_getElem hj)) ?_⟩
    conv => whnf
    have hdr : l.drop j = l[j] :: l.drop (j + 1) := List.drop_eq_getElem_cons hj
    rw [hdr] at g2
    simp only [find] at g2
    obtain ⟨x, hx⟩ : ∃ x, l[j] = x := ⟨_, rfl⟩
    have hmem : x ∈ l := hx ▸ List.getElem_mem hj
    rw [hx] at g2 ⊢
    refine ⟨_, job1 x (h _ hmem), ?_⟩
    cases hp : mayJ x with
    | true =>
      rw [hp] at g2
      conv => whnf
      refine Nx.intro ⟨j + 1, hj, g2⟩ (by dsimp only; omega) ?_
      exact Wk.intro [] rfl (fun p hp => by cases hp) ⟨.same rfl trivial, .same rfl (by intro c hc; cases hc), .same rfl trivial, .same (congrArg i64 (by rw [wrap_i64 _ (by omega) (by omega)]; rfl)) trivial, trivial⟩ trivial
    | false =>
      rw [hp] at g2
      conv => whnf
      exact .inl (congrArg i64 g2.symm)
  · obtain rfl : j = l.length := by have := of_decide_eq_false h1; omega
    rw [List.drop_length] at g2
    exact .inl (congrArg i64 g2.symm)
theorem cf_job (l : List Job) (h : ∀ x ∈ l, inJ x) (hl : l.length ≤ 9223372036854775806) : FCv Try.prog 31 [.sl none 7 (l.map fun x => jC x), .clo 32 []] (tb (!l.all fun x => mayJ x)) := by
  have h := ifi_job l h hl
  have hr := find_rng (fun x => !mayJ x) l 0 (by decide)
  obtain ⟨q, hq⟩ : ∃ q, find (fun x => !mayJ x) l 0 = q := ⟨_, rfl⟩
  rw [hq] at h hr
  obtain ⟨R, hR⟩ : ∃ R, (l.map fun x => jC x) = R := ⟨_, rfl⟩
  rw [hR] at h ⊢
  refine FCv_of_awp (fn := Try.f31) (c := bodyC Try.f31) Try.func31 rfl (of_decide_eq_true rfl) [] ?_
  conv => whnf
  refine ⟨_, h, ?_⟩
  conv => whnf
  refine .inl (congrArg tb ?_)
  simp only [Bool.not_not] at hr
  rw [Bool.eq_iff_iff, decide_eq_true_eq, Bool.not_eq_true', ← Bool.not_eq_true, ← hr]
  omega
end Go.AW.Ml
