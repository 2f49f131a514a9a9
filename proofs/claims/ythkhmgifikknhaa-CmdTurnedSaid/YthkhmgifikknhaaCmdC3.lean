import Derived.Test.YthkhmgifikknhaaCmdC2
import Derived.Test.YthkhmgifikknhaaAw32
/- Replies: their bytes, walked; parts of items. -/
set_option linter.unusedVariables false
set_option linter.unusedSimpArgs false
namespace Go.AW.Cm
open Go Go.AW Go.AW.Wir Go.Proofs
set_option maxRecDepth 10000
set_option pp.maxSteps 60

theorem cmay_law (r : Rep) : FCv Try.prog 43 [rT r] (tb (mayR r)) := by
  have hm : mayR r = (decide (0 ≤ r.e) && (decide (r.e ≤ 255) && decide (r.s.length ≤ 1000))) := rfl
  obtain ⟨R, hR⟩ : ∃ R, mayR r = R := ⟨_, rfl⟩
  rw [hR] at hm ⊢
  unfold rT
  refine FCv_of_awp (fn := Try.f43) (c := bodyC Try.f43) Try.func43 rfl (of_decide_eq_true rfl) [] ?_
  conv => whnf
  refine br_intro (fun h1 => ?_) (fun h1 => ?_) <;> (rw [h1]; conv => whnf) <;> rw [show decide (0 ≤ r.e) = _ from h1] at hm
  · refine br_intro (fun h2 => ?_) (fun h2 => ?_) <;> (rw [h2]; conv => whnf) <;> rw [h2] at hm
    · exact .inl (congrArg tb (by rw [hm, sizeD]; exact decide_eq_decide.2 (by omega)))
    · exact .inl (congrArg tb hm.symm)
  · exact .inl (congrArg tb hm.symm)
theorem pack_law (c : Rep) (h : inRep c) : FCv Try.prog 21 [rT c] (.tup [ts (encR c).1, i64 (encR c).2]) := by
  have m := cmay_law c
  have e := encodeR c h
  have hy : mayR c = true → encode (itemR c) = (bytesRp c, 0) := encode_rep
  unfold encR
  obtain ⟨M, hM⟩ : ∃ M, mayR c = M := ⟨_, rfl⟩
  rw [hM] at m hy ⊢
  unfold rT at m ⊢
  refine FCv_of_awp (fn := Try.f21) (c := bodyC Try.f21) Try.func21 rfl (of_decide_eq_true rfl) [] ?_
  conv => whnf
  refine ⟨_, m, ?_⟩
  conv => whnf
  cases M with
  | false =>
    conv => whnf
    exact ⟨.inl rfl, .inl rfl, trivial⟩
  | true =>
    rw [hy rfl] at e
    conv => whnf
    refine ⟨_, num1 c.e, ?_⟩
    conv => whnf
    refine ⟨_, str1 c.s, ?_⟩
    conv => whnf
    refine ⟨_, vec1 c.v, ?_⟩
    conv => whnf
    refine ⟨_, num1 c.n, ?_⟩
    conv => whnf
    refine ⟨_, row1 _, ?_⟩
    conv => whnf
    refine ⟨_, e, ?_⟩
    conv => whnf
    refine ⟨_, ⟨rfl, rfl⟩, ?_⟩
    conv => whnf
    exact ⟨.inl rfl, .inl rfl, trivial⟩
theorem rpack_law (c : Rep) (h : inRep c) : FCv Try.prog 22 [rT c] (.tup [ts (encR c).1, i64 (encR c).2]) := by
  have e := rencodeR c h
  have hy : mayR c = true → encode (itemR c) = (bytesRp c, 0) := encode_rep
  have hn : mayR c = false → encR c = ([], 4) := fun h => by unfold encR; rw [h]; rfl
  have hyy : mayR c = true → encR c = (bytesRp c, 0) := fun h => by unfold encR; rw [h]; rfl
  have hm : mayR c = false ↔ c.e < 0 ∨ 255 < c.e ∨ 1000 < c.s.length := by
    rw [← Bool.not_eq_true, mayR_iff]; omega
  obtain ⟨R, hR⟩ : ∃ R, encR c = R := ⟨_, rfl⟩
  rw [hR] at hn hyy ⊢
  unfold rT
  refine FCv_of_awp (fn := Try.f22) (c := bodyC Try.f22) Try.func22 rfl (of_decide_eq_true rfl) [] ?_
  conv => whnf
  refine br_intro (fun h1 => ?_) (fun h1 => ?_) <;> (rw [h1]; conv => whnf)
  · rw [hn (hm.2 (.inl (of_decide_eq_true h1)))]
    exact ⟨.inl rfl, .inl rfl, trivial⟩
  refine br_intro (fun h2 => ?_) (fun h2 => ?_) <;> (rw [h2]; conv => whnf)
  · rw [hn (hm.2 (.inr (.inl (of_decide_eq_true h2))))]
    exact ⟨.inl rfl, .inl rfl, trivial⟩
  rw [sizeD]
  refine br_intro (fun h3 => ?_) (fun h3 => ?_) <;> (rw [h3]; conv => whnf)
  · rw [hn (hm.2 (.inr (.inr (by have := of_decide_eq_true h3; omega))))]
    exact ⟨.inl rfl, .inl rfl, trivial⟩
  have hmt : mayR c = true := by
    have g1 := of_decide_eq_false h1
    have g2 := of_decide_eq_false h2
    have g3 := of_decide_eq_false h3
    exact mayR_iff.2 (by omega)
  rw [hyy hmt]
  rw [hy hmt] at e
  refine ⟨_, num2 c.e, ?_⟩
  conv => whnf
  refine ⟨_, str2 c.s, ?_⟩
  conv => whnf
  refine ⟨_, vec2 c.v, ?_⟩
  conv => whnf
  refine ⟨_, num2 c.n, ?_⟩
  conv => whnf
  refine ⟨_, row2 _, ?_⟩
  conv => whnf
  refine ⟨_, e, ?_⟩
  conv => whnf
  refine ⟨_, ⟨rfl, rfl⟩, ?_⟩
  conv => whnf
  exact ⟨.inl rfl, .inl rfl, trivial⟩

/-- Why a reading stops. -/
def unl : Value := .iface 57 (.agg #[])
theorem list_ok (m : Int) (s : List UInt8) (l : List (List T)) (n : Nat) (h : l.length = n) : FCv Try.prog 36 [.agg [i64 3, i64 m, ts s, .sl none 4 l], i64 (n : Nat)] (.tup []) := by
  refine FCv_of_awp (fn := Try.f36) (c := bodyC Try.f36) Try.func36 rfl (of_decide_eq_true rfl) [] ?_
  conv => whnf
  rw [qq (by rw [h])]
  conv => whnf
  trivial
theorem list_no (i : It) (n : Nat) (h : i.k ≠ 3 ∨ i.l.length ≠ n) : FCx Try.prog 36 [.agg [i64 i.k, i64 i.n, ts i.s, .sl none 4 (itR i.l)], i64 (n : Nat)] [] 0 unl := by
  refine FCx_of_awp (fn := Try.f36) (c := bodyC Try.f36) Try.func36 rfl (of_decide_eq_true rfl) [] rfl ?_
  conv => whnf
  by_cases hk : i.k = 3
  · rw [qq hk]
    conv => whnf
    rw [qn (by rw [itR_len]; intro e; exact h.elim (fun h => h hk) (fun h => h (by omega)))]
    conv => whnf
    all_goals rfl
  · rw [qn hk]
    conv => whnf
    all_goals rfl

abbrev iT (i : It) : T := .agg [i64 i.k, i64 i.n, ts i.s, .sl none 4 (itR i.l)]
theorem part_ok (n kind : Int) (s : List UInt8) (l : List It) (j : Nat) (i : It) (hj : l[j]? = some i) (hk : i.k = kind) : FCv Try.prog 38 [.agg [i64 3, i64 n, ts s, .sl none 4 (itR l)], i64 (j : Nat), i64 kind] (iT i) := by
  have hlt : j < l.length := (List.getElem?_eq_some_iff.1 hj).1
  have hg := itR_get hj
  rw [itC_eq] at hg
  refine FCv_of_awp (fn := Try.f38) (c := bodyC Try.f38) Try.func38 rfl (of_decide_eq_true rfl) [] ?_
  conv => whnf
  rw [itR_len, show decide ((j : Int) ≥ (l.length : Int)) = false from decide_eq_false (by omega)]
  conv => whnf
  refine ⟨by omega, nthK_intro hg ?_⟩
  conv => whnf
  rw [qq hk]
  conv => whnf
  refine ⟨by omega, nthK_intro hg ?_⟩
  conv => whnf
  exact .inl rfl
theorem part_no (n kind : Int) (s : List UInt8) (l : List It) (j : Nat) (i : It) (hj : l[j]? = some i) (hk : i.k ≠ kind) : FCx Try.prog 38 [.agg [i64 3, i64 n, ts s, .sl none 4 (itR l)], i64 (j : Nat), i64 kind] [] 0 unl := by
  have hlt : j < l.length := (List.getElem?_eq_some_iff.1 hj).1
  have hg := itR_get hj
  rw [itC_eq] at hg
  refine FCx_of_awp (fn := Try.f38) (c := bodyC Try.f38) Try.func38 rfl (of_decide_eq_true rfl) [] rfl ?_
  conv => whnf
  rw [itR_len, show decide ((j : Int) ≥ (l.length : Int)) = false from decide_eq_false (by omega)]
  conv => whnf
  refine ⟨by omega, nthK_intro hg ?_⟩
  conv => whnf
  rw [qn hk]
  conv => whnf
  all_goals rfl
theorem small_ok (i : It) (h : small i.n) : FCv Try.prog 37 [iT i] (i64 i.n) := by
  refine FCv_of_awp (fn := Try.f37) (c := bodyC Try.f37) Try.func37 rfl (of_decide_eq_true rfl) [] ?_
  conv => whnf
  rw [Nam.wrap32 i.n h.1 h.2, wrap_i64 i.n (by have := h.1; omega) (by have := h.2; omega), qq rfl]
  conv => whnf
  exact .inl rfl
theorem wrap32_rng (n : Int) : small (IntKind.i32.wrap n) := by
  have e1 : (2 : Int) ^ IntKind.i32.bits = 4294967296 := by decide
  have e2 : (2 : Int) ^ (IntKind.i32.bits - 1) = 2147483648 := by decide
  unfold small
  simp only [IntKind.wrap, e1, e2, show IntKind.i32.signed = true from rfl, Bool.true_and, decide_eq_true_eq]
  split <;> omega
theorem small_no (i : It) (h : ¬ small i.n) : FCx Try.prog 37 [iT i] [] 0 unl := by
  refine FCx_of_awp (fn := Try.f37) (c := bodyC Try.f37) Try.func37 rfl (of_decide_eq_true rfl) [] rfl ?_
  conv => whnf
  have hw := wrap32_rng i.n
  rw [wrap_i64 (IntKind.i32.wrap i.n) (by have := hw.1; omega) (by have := hw.2; omega), qn (by intro e; rw [← e] at hw; exact h hw)]
  conv => whnf
  all_goals rfl

theorem vec_of {i : It} {v : V} (h : toV i = some v) : i.k = 3 ∧ ∃ a b c : It, i.l = [a, b, c] ∧ (a.k = 1 ∧ a.n = v.1) ∧ (b.k = 1 ∧ b.n = v.2.1) ∧ (c.k = 1 ∧ c.n = v.2.2) := by
  have num : ∀ {i : It} {n : Int}, toN i = some n → i.k = 1 ∧ i.n = n := by
    intro i n h
    obtain ⟨k, m, s, l⟩ := i
    rw [show toN (.mk k m s l) = if k = 1 then some m else none from rfl] at h
    split at h
    · rename_i hk; cases h; exact ⟨hk, rfl⟩
    · cases h
  unfold toV at h
  split at h
  · split at h
    · rename_i hk
      split at h
      · rename_i ha hb hc
        cases h
        exact ⟨hk, _, _, _, rfl, num ha, num hb, num hc⟩
      · cases h
    · cases h
  · cases h
theorem vec_row {a b c : It} (n : Int) (s : List UInt8) : toV (.mk 3 n s [a, b, c]) = none → a.k ≠ 1 ∨ b.k ≠ 1 ∨ c.k ≠ 1 := by
  have num : ∀ i : It, i.k = 1 → toN i = some i.n := by
    intro i h
    obtain ⟨k, m, s, l⟩ := i
    exact if_pos h
  intro h
  by_cases ha : a.k = 1
  · by_cases hb : b.k = 1
    · by_cases hc : c.k = 1
      · exfalso
        have : toV (.mk 3 n s [a, b, c]) = (match toN a, toN b, toN c with | some x, some y, some z => some (x, y, z) | _, _, _ => none) := by simp only [toV, if_true]; rfl
        rw [this, num a ha, num b hb, num c hc] at h
        cases h
      · exact .inr (.inr hc)
    · exact .inr (.inl hb)
  · exact .inl ha
def arrV (x y z : Int) (j : Nat) : List T := [i64 (if 0 < j then x else 0), i64 (if 1 < j then y else 0), i64 (if 2 < j then z else 0)]
theorem arr_lt (x : Nat) (a b c : Int) : blkLt x (.own 3 [[i64 a, i64 b, i64 c]]) := by
  intro row hr e he
  obtain rfl := List.mem_singleton.1 hr
  simp only [List.mem_cons, List.mem_nil_iff, or_false] at he
  rcases he with rfl | rfl | rfl <;> trivial
theorem vecOf_ok (i : It) (v : V) (h : toV i = some v) : FCv Try.prog 39 [iT i] (.agg [i64 v.1, i64 v.2.1, i64 v.2.2]) := by
  obtain ⟨hk, a, b, c, hl, ⟨a1, a2⟩, ⟨b1, b2⟩, ⟨c1, c2⟩⟩ := vec_of h
  unfold iT
  rw [hk, hl, ← a2, ← b2, ← c2]
  refine FCv_of_awp (fn := Try.f39) (c := bodyC Try.f39) Try.func39 rfl (of_decide_eq_true rfl) [] ?_
  conv => whnf
  refine ⟨_, list_ok i.n i.s (itR [a, b, c]) 3 rfl, ?_⟩
  conv => whnf
  have hA : itR [a, b, c] = [itC a, itC b, itC c] := rfl
  refine loop_intro (fun j : Fin 4 => ⟨[(1, .ptr 0 0 0), (2, .ptr 1 0 0), (3, .ptr 2 0 0), (7, i64 (j.1 : Nat))], [(0, .own 4 [[i64 3, i64 i.n, ts i.s, .sl none 4 (itR [a, b, c])]]), (1, .own 3 [[i64 0, i64 0, i64 0]]), (2, .own 3 [arrV a.n b.n c.n j.1])], 18, 3, []⟩) (fun j => 3 - j.1) 0 ?_ ?_
  · exact Wk.intro [] rfl (fun p hp => by cases hp) ⟨.same rfl (by exact rfl), .same rfl (by exact rfl), .same rfl (by exact rfl), .same rfl trivial, trivial⟩
      ⟨⟨rfl, .inl ⟨rfl, it_row _ _ _ _ _⟩⟩, ⟨rfl, .inl ⟨rfl, arr_lt _ _ _ _⟩⟩, ⟨rfl, .inl ⟨rfl, arr_lt _ _ _ _⟩⟩, trivial⟩
  rintro ⟨j, hj⟩
  have hnx : ∀ j, j < 4 → j = 0 ∨ j = 1 ∨ j = 2 ∨ j = 3 := by omega
  rcases hnx j hj with rfl | rfl | rfl | rfl
  · conv => whnf
    refine ⟨_, part_ok i.n 1 i.s [a, b, c] 0 a rfl a1, ?_⟩
    conv => whnf
    refine ⟨⟨by dsimp only; omega, by dsimp only; omega⟩, ?_⟩
    conv => whnf
    refine Nx.intro ⟨1, by decide⟩ (by dsimp only; omega) ?_
    exact Wk.intro [] rfl (fun p hp => by cases hp) ⟨.same rfl (by exact rfl), .same rfl (by exact rfl), .same rfl (by exact rfl), .same rfl trivial, trivial⟩
      ⟨⟨rfl, .inl ⟨rfl, it_row _ _ _ _ _⟩⟩, ⟨rfl, .inl ⟨rfl, arr_lt _ _ _ _⟩⟩, ⟨rfl, .inl ⟨rfl, arr_lt _ _ _ _⟩⟩, trivial⟩
  · conv => whnf
    refine ⟨_, part_ok i.n 1 i.s [a, b, c] 1 b rfl b1, ?_⟩
    conv => whnf
    refine ⟨⟨by dsimp only; omega, by dsimp only; omega⟩, ?_⟩
    conv => whnf
    refine Nx.intro ⟨2, by decide⟩ (by dsimp only; omega) ?_
    exact Wk.intro [] rfl (fun p hp => by cases hp) ⟨.same rfl (by exact rfl), .same rfl (by exact rfl), .same rfl (by exact rfl), .same rfl trivial, trivial⟩
      ⟨⟨rfl, .inl ⟨rfl, it_row _ _ _ _ _⟩⟩, ⟨rfl, .inl ⟨rfl, arr_lt _ _ _ _⟩⟩, ⟨rfl, .inl ⟨rfl, arr_lt _ _ _ _⟩⟩, trivial⟩
  · conv => whnf
    refine ⟨_, part_ok i.n 1 i.s [a, b, c] 2 c rfl c1, ?_⟩
    conv => whnf
    refine ⟨⟨by dsimp only; omega, by dsimp only; omega⟩, ?_⟩
    conv => whnf
    refine Nx.intro ⟨3, by decide⟩ (by dsimp only; omega) ?_
    exact Wk.intro [] rfl (fun p hp => by cases hp) ⟨.same rfl (by exact rfl), .same rfl (by exact rfl), .same rfl (by exact rfl), .same rfl trivial, trivial⟩
      ⟨⟨rfl, .inl ⟨rfl, it_row _ _ _ _ _⟩⟩, ⟨rfl, .inl ⟨rfl, arr_lt _ _ _ _⟩⟩, ⟨rfl, .inl ⟨rfl, arr_lt _ _ _ _⟩⟩, trivial⟩
  · conv => whnf
    exact .inl rfl
theorem len3 {l : List It} (h : l.length = 3) : ∃ a b c, l = [a, b, c] := by
  match l, h with
  | [a, b, c], _ => exact ⟨a, b, c, rfl⟩
theorem vecOf_no (i : It) (h : toV i = none) : FCx Try.prog 39 [iT i] [] 0 unl := by
  by_cases hL : i.k ≠ 3 ∨ i.l.length ≠ 3
  · unfold iT
    refine FCx_of_awp (fn := Try.f39) (c := bodyC Try.f39) Try.func39 rfl (of_decide_eq_true rfl) [2000000, 3000000 + 36, 3000000 + 38] rfl ?_
    conv => whnf
    refine .inr ⟨[], _, _, _, list_no i 3 hL, ⟨rfl, trivial, rfl, rfl, trivial⟩, ?_⟩
    conv => whnf
    all_goals rfl
  simp only [not_or, Classical.not_not] at hL
  obtain ⟨hk, hl⟩ := hL
  obtain ⟨a, b, c, hl⟩ := len3 hl
  have hno : a.k ≠ 1 ∨ b.k ≠ 1 ∨ c.k ≠ 1 := by
    refine vec_row (n := i.n) (s := i.s) ?_
    rw [← hk, ← hl, It.eta]
    exact h
  unfold iT
  rw [hk, hl]
  refine FCx_of_awp (fn := Try.f39) (c := bodyC Try.f39) Try.func39 rfl (of_decide_eq_true rfl) [2000000, 3000000 + 36, 3000000 + 38] rfl ?_
  conv => whnf
  refine .inl ⟨_, list_ok i.n i.s (itR [a, b, c]) 3 rfl, ?_⟩
  conv => whnf
  refine loop_intro (fun j : { j : Nat // j < 4 ∧ (0 < j → a.k = 1) ∧ (1 < j → b.k = 1) ∧ (2 < j → c.k = 1) } => ⟨[(1, .ptr 0 0 0), (2, .ptr 1 0 0), (3, .ptr 2 0 0), (7, i64 (j.1 : Nat))], [(0, .own 4 [[i64 3, i64 i.n, ts i.s, .sl none 4 (itR [a, b, c])]]), (1, .own 3 [[i64 0, i64 0, i64 0]]), (2, .own 3 [arrV a.n b.n c.n j.1])], 18, 3, [2000000, 3000000 + 36, 3000000 + 38]⟩) (fun j => 3 - j.1) ⟨0, by omega, fun h => by omega, fun h => by omega, fun h => by omega⟩ ?_ ?_
  · exact Wk.intro [] rfl (fun p hp => by cases hp) ⟨.same rfl (by exact rfl), .same rfl (by exact rfl), .same rfl (by exact rfl), .same rfl trivial, trivial⟩
      ⟨⟨rfl, .inl ⟨rfl, it_row _ _ _ _ _⟩⟩, ⟨rfl, .inl ⟨rfl, arr_lt _ _ _ _⟩⟩, ⟨rfl, .inl ⟨rfl, arr_lt _ _ _ _⟩⟩, trivial⟩
  rintro ⟨j, hj, ha, hb, hc⟩
  have hnx : ∀ j, j < 4 → j = 0 ∨ j = 1 ∨ j = 2 ∨ j = 3 := by omega
  rcases hnx j hj with rfl | rfl | rfl | rfl
  · conv => whnf
    by_cases a1 : a.k = 1
    · refine .inl ⟨_, part_ok i.n 1 i.s [a, b, c] 0 a rfl a1, ?_⟩
      conv => whnf
      refine ⟨⟨by dsimp only; omega, by dsimp only; omega⟩, ?_⟩
      conv => whnf
      refine Nx.intro ⟨1, by omega, fun _ => a1, fun h => by omega, fun h => by omega⟩ (by dsimp only; omega) ?_
      exact Wk.intro [] rfl (fun p hp => by cases hp) ⟨.same rfl (by exact rfl), .same rfl (by exact rfl), .same rfl (by exact rfl), .same rfl trivial, trivial⟩
        ⟨⟨rfl, .inl ⟨rfl, it_row _ _ _ _ _⟩⟩, ⟨rfl, .inl ⟨rfl, arr_lt _ _ _ _⟩⟩, ⟨rfl, .inl ⟨rfl, arr_lt _ _ _ _⟩⟩, trivial⟩
    · refine .inr ⟨[], _, _, _, part_no i.n 1 i.s [a, b, c] 0 a rfl a1, ⟨rfl, trivial, rfl, rfl, trivial⟩, ?_⟩
      conv => whnf
      all_goals rfl
  · conv => whnf
    by_cases b1 : b.k = 1
    · refine .inl ⟨_, part_ok i.n 1 i.s [a, b, c] 1 b rfl b1, ?_⟩
      conv => whnf
      refine ⟨⟨by dsimp only; omega, by dsimp only; omega⟩, ?_⟩
      conv => whnf
      refine Nx.intro ⟨2, by omega, fun _ => ha (by omega), fun _ => b1, fun h => by omega⟩ (by dsimp only; omega) ?_
      exact Wk.intro [] rfl (fun p hp => by cases hp) ⟨.same rfl (by exact rfl), .same rfl (by exact rfl), .same rfl (by exact rfl), .same rfl trivial, trivial⟩
        ⟨⟨rfl, .inl ⟨rfl, it_row _ _ _ _ _⟩⟩, ⟨rfl, .inl ⟨rfl, arr_lt _ _ _ _⟩⟩, ⟨rfl, .inl ⟨rfl, arr_lt _ _ _ _⟩⟩, trivial⟩
    · refine .inr ⟨[], _, _, _, part_no i.n 1 i.s [a, b, c] 1 b rfl b1, ⟨rfl, trivial, rfl, rfl, trivial⟩, ?_⟩
      conv => whnf
      all_goals rfl
  · conv => whnf
    by_cases c1 : c.k = 1
    · refine .inl ⟨_, part_ok i.n 1 i.s [a, b, c] 2 c rfl c1, ?_⟩
      conv => whnf
      refine ⟨⟨by dsimp only; omega, by dsimp only; omega⟩, ?_⟩
      conv => whnf
      refine Nx.intro ⟨3, by omega, fun _ => ha (by omega), fun _ => hb (by omega), fun _ => c1⟩ (by dsimp only; omega) ?_
      exact Wk.intro [] rfl (fun p hp => by cases hp) ⟨.same rfl (by exact rfl), .same rfl (by exact rfl), .same rfl (by exact rfl), .same rfl trivial, trivial⟩
        ⟨⟨rfl, .inl ⟨rfl, it_row _ _ _ _ _⟩⟩, ⟨rfl, .inl ⟨rfl, arr_lt _ _ _ _⟩⟩, ⟨rfl, .inl ⟨rfl, arr_lt _ _ _ _⟩⟩, trivial⟩
    · refine .inr ⟨[], _, _, _, part_no i.n 1 i.s [a, b, c] 2 c rfl c1, ⟨rfl, trivial, rfl, rfl, trivial⟩, ?_⟩
      conv => whnf
      all_goals rfl
  · exact (hno.elim (fun h => h (ha (by omega))) (fun h => h.elim (fun h => h (hb (by omega))) (fun h => h (hc (by omega))))).elim
end Go.AW.Cm

/- Commands: decoding, walked. -/
set_option linter.unusedVariables false
set_option linter.unusedSimpArgs false
namespace Go.AW.Cm
open Go Go.AW Go.AW.Wir Go.Proofs
set_option maxRecDepth 10000
set_option pp.maxSteps 60

/-- The results of a decoding, as cells. -/
def dM (row : List T) (e : Int) : Mem := [(0, .own 7 [row]), (1, .own 1 [[i64 e]])]
abbrev zC : List T := [i64 0, ts [], ts [], i64 0, i64 0, i64 0, i64 0]
theorem cR_flat (c : Cmd) : flatB [cR c] := by
  intro row hr x hx
  obtain rfl := List.mem_singleton.1 hr
  simp only [cR, List.mem_cons, List.mem_nil_iff, or_false] at hx
  rcases hx with rfl | rfl | rfl | rfl | rfl | rfl | rfl <;> rfl
theorem zC_flat : flatB [zC] := cR_flat zeroC
theorem dd_none (row : List T) (hrow : flatB [row]) (e : Int) : FCd Try.prog 34 [.ptr 0 0 0, .ptr 1 0 0] (dM row e) 2 none (dM row e) := by
  refine FCd_of_awp (fn := Try.f34) Try.func34 rfl rfl rfl rfl rfl (of_decide_eq_true rfl) rfl (of_decide_eq_true rfl) rfl [2000002] rfl ?_
  conv => whnf
  refine ⟨[(0, 0), (1, 1)], ⟨rfl, rfl, rfl⟩, trivial, ⟨0, _, rfl, rfl, rfl, renB_flat _ hrow, domB_flat _ hrow⟩, ⟨1, _, rfl, rfl, rfl, renB_flat _ (one_flat e), domB_flat _ (one_flat e)⟩, trivial⟩
theorem dd_some (row : List T) (h4 : row.length = 7) (e : Int) : FCd Try.prog 34 [.ptr 0 0 0, .ptr 1 0 0] (dM row e) 2 (some unl) (dM zC 4) := by
  match row, h4 with
  | [a, b, c, d, x, y, z], _ =>
    refine FCd_of_awp (fn := Try.f34) Try.func34 rfl rfl rfl rfl rfl (of_decide_eq_true rfl) rfl (of_decide_eq_true rfl) rfl [2000002] rfl ?_
    conv => whnf
    refine ⟨[(0, 0), (1, 1)], ⟨rfl, rfl, rfl⟩, trivial, ⟨0, _, rfl, rfl, rfl, rfl, domB_flat _ zC_flat⟩, ⟨1, _, rfl, rfl, rfl, rfl, domB_flat _ (one_flat 4)⟩, trivial⟩

theorem d_in {m : Mem} {row : List T} {e : Int} (h0 : m.get 0 = some (.own 7 [row])) (h1 : m.get 1 = some (.own 1 [[i64 e]])) (hrow : flatB [row]) : memIn (asIn [0, 1] 0) m (dM row e) :=
  ⟨⟨rfl, by rw [renB_flat _ hrow]; exact h0, domB_flat _ hrow⟩, ⟨rfl, by rw [renB_flat _ (one_flat e)]; exact h1, domB_flat _ (one_flat e)⟩, trivial⟩
theorem d_out (id : Nat) {row : List T} {e : Int} (hrow : flatB [row]) : memOut (asIn ([0, 1] ++ [id]) 0) (dM row e) (dM row e) :=
  ⟨⟨rfl, rfl, renB_flat _ hrow, domB_flat _ hrow⟩, ⟨rfl, rfl, renB_flat _ (one_flat e), domB_flat _ (one_flat e)⟩, trivial⟩
theorem decode_e (s : List UInt8) : (Wir.decode s).2 = 0 ∨ Wir.decode s = (noIt, 4) := by
  unfold Wir.decode
  split
  · exact .inl rfl
  · exact .inr rfl
theorem len5 {l : List It} (h : l.length = 5) : ∃ a b c d x, l = [a, b, c, d, x] := by
  match l, h with
  | [a, b, c, d, x], _ => exact ⟨a, b, c, d, x, rfl⟩
theorem len4 {l : List It} (h : l.length = 4) : ∃ a b c d, l = [a, b, c, d] := by
  match l, h with
  | [a, b, c, d], _ => exact ⟨a, b, c, d, rfl⟩
theorem toN_eq (i : It) : toN i = if i.k = 1 then some i.n else none := by cases i; rfl
theorem toS_eq (i : It) : toS i = if i.k = 2 then some i.s else none := by cases i; rfl
theorem toC_l {i : It} (h : i.k ≠ 3 ∨ i.l.length ≠ 5) : toC i = none := by
  cases hc : toC i with
  | none => rfl
  | some c =>
    exfalso
    unfold toC at hc
    split at hc
    · split at hc
      · rename_i hk; exact h.elim (fun h => h hk) (fun h => h rfl)
      · cases hc
    · cases hc
theorem toV_k {i : It} {v : V} (h : toV i = some v) : i.k = 3 := (vec_of h).1
theorem toC_5 {i a b c d x : It} (hk : i.k = 3) (hl : i.l = [a, b, c, d, x]) : toC i = if a.k = 1 ∧ small a.n ∧ b.k = 2 ∧ c.k = 2 ∧ x.k = 1 then (match toV d with | some v => some ⟨a.n, b.s, c.s, v, x.n⟩ | none => none) else none := by
  obtain ⟨k, n, s, l⟩ := i
  have hk : k = 3 := hk
  have hl : l = [a, b, c, d, x] := hl
  subst hk hl
  simp only [toC, if_true, toN_eq, toS_eq]
  by_cases h1 : a.k = 1
  · by_cases h2 : b.k = 2
    · by_cases h3 : c.k = 2
      · by_cases h4 : x.k = 1
        · by_cases h5 : small a.n
          · simp only [if_pos h1, if_pos h2, if_pos h3, if_pos h4, if_pos h5, if_pos (⟨h1, h5, h2, h3, h4⟩ : a.k = 1 ∧ small a.n ∧ b.k = 2 ∧ c.k = 2 ∧ x.k = 1)]
            cases toV d with
            | none => rfl
            | some v => exact if_pos h5
          · simp only [if_pos h1, if_pos h2, if_pos h3, if_pos h4, if_neg h5, if_neg (show ¬ (a.k = 1 ∧ small a.n ∧ b.k = 2 ∧ c.k = 2 ∧ x.k = 1) from fun e => h5 e.2.1)]
            cases toV d with
            | none => rfl
            | some v => exact if_neg h5
        · simp only [if_neg h4, if_neg (show ¬ (a.k = 1 ∧ small a.n ∧ b.k = 2 ∧ c.k = 2 ∧ x.k = 1) from fun e => h4 e.2.2.2.2)]
          rw [if_pos h1, if_pos h2, if_pos h3]
          cases toV d <;> rfl
      · simp only [if_neg h3, if_neg (show ¬ (a.k = 1 ∧ small a.n ∧ b.k = 2 ∧ c.k = 2 ∧ x.k = 1) from fun e => h3 e.2.2.2.1)]
        rw [if_pos h1, if_pos h2]
    · simp only [if_neg h2, if_neg (show ¬ (a.k = 1 ∧ small a.n ∧ b.k = 2 ∧ c.k = 2 ∧ x.k = 1) from fun e => h2 e.2.2.1)]
      rw [if_pos h1]
  · simp only [if_neg h1, if_neg (show ¬ (a.k = 1 ∧ small a.n ∧ b.k = 2 ∧ c.k = 2 ∧ x.k = 1) from fun e => h1 e.1)]
theorem toC_small {i : It} {c : Cmd} (h : toC i = some c) : small c.op := by
  unfold toC at h
  split at h
  · split at h
    · split at h
      · split at h
        · rename_i hs; cases h; exact hs
        · cases h
      · cases h
    · cases h
  · cases h
theorem num_in {n : Int} (h : inI (numI n)) : in64 n := by unfold numI at h; rw [inI] at h; exact h.1.1
theorem str_big {s : List UInt8} (h : bigI (strI s) = false) : s.length ≤ 4096 := by
  unfold strI at h
  rw [bigI, bigL] at h
  simp only [Bool.or_false, Bool.and_eq_false_iff] at h
  rcases h with h | h
  · simp at h
  · have := of_decide_eq_false h; omega
theorem of_dec {s : List UInt8} {c : Cmd} (hin : inI (itemC c)) (h : Wir.decode s = (itemC c, 0)) : inCmd c := by
  have h1 := decode_enc (s := s) (by rw [h])
  rw [h] at h1
  have h2 : (encode (itemC c)).2 = 0 := by rw [h1]
  have h3 := (enc_iff.1 h2).1.2.2
  unfold itemC at h3 hin
  rw [bigI, bigL, bigL, bigL, bigL, bigL, bigL] at h3
  simp only [Bool.or_eq_false_iff] at h3
  rw [inI, inIs, inIs, inIs, inIs, inIs, inIs] at hin
  obtain ⟨_, g1, _, _, g4, g5, _⟩ := hin
  unfold vecI at g4
  rw [inI, inIs, inIs, inIs, inIs] at g4
  obtain ⟨_, v1, v2, v3, _⟩ := g4
  have e1 := str_big h3.2.2.1
  have e2 := str_big h3.2.2.2.1
  exact ⟨num_in g1, by omega, by omega, ⟨num_in v1, num_in v2, num_in v3⟩, num_in g5⟩
theorem of_decR {s : List UInt8} {c : Rep} (hin : inI (itemR c)) (h : Wir.decode s = (itemR c, 0)) : inRep c ∧ c.s.length ≤ 4096 := by
  have h1 := decode_enc (s := s) (by rw [h])
  rw [h] at h1
  have h2 : (encode (itemR c)).2 = 0 := by rw [h1]
  have h3 := (enc_iff.1 h2).1.2.2
  unfold itemR at h3 hin
  rw [bigI, bigL, bigL, bigL, bigL, bigL] at h3
  simp only [Bool.or_eq_false_iff] at h3
  rw [inI, inIs, inIs, inIs, inIs, inIs] at hin
  obtain ⟨_, g1, _, g4, g5, _⟩ := hin
  unfold vecI at g4
  rw [inI, inIs, inIs, inIs, inIs] at g4
  obtain ⟨_, v1, v2, v3, _⟩ := g4
  exact ⟨⟨num_in g1, ⟨num_in v1, num_in v2, num_in v3⟩, num_in g5⟩, str_big h3.2.2.1⟩
/-- Bytes of an item that is a command's, or that are none. -/
theorem dec_law1 (s : List UInt8) (hs : s.length ≤ 140737488351232) (hok : (Wir.decode s).2 = 0 → toC (Wir.decode s).1 ≠ none) : FCv Try.prog 17 [ts s] (.tup [cT (decC s).1, i64 (decC s).2]) := by
  have d := decode_law s hs
  have hD : decC s = if (Wir.decode s).2 = 0 then (match toC (Wir.decode s).1 with | some c => if mayC c = true then ((c, 0) : Cmd × Int) else (zeroC, 4) | none => (zeroC, 4)) else (zeroC, 4) := rfl
  have hin := decode_in s
  have he := decode_e s
  have hfm := @decode_form s
  obtain ⟨R, hR⟩ : ∃ R, decC s = R := ⟨_, rfl⟩
  rw [hR] at hD ⊢
  obtain ⟨⟨i, e⟩, hi⟩ : ∃ p, Wir.decode s = p := ⟨_, rfl⟩
  rw [hi] at d hD hin he hok hfm
  dsimp only at d hD hin he hok hfm
  rcases he with rfl | he
  rotate_left
  · cases he
    rw [itT_row] at d
    refine FCv_of_defer2 (fn := Try.f17) (g := 34) (gn := Try.f34) Try.func17 rfl rfl rfl rfl rfl rfl rfl Try.func34 rfl rfl (of_decide_eq_true rfl) [2000002] ?_
    conv => whnf
    refine ⟨_, d, ?_⟩
    conv => whnf
    have hR4 : R = (zeroC, 4) := hD
    rw [hR4]
    refine ⟨[0, 1], [.ptr 0 0 0, .ptr 1 0 0], dM zC 4, dM zC 4, dM zC 4, dd_none _ zC_flat 4, ⟨rfl, ⟨rfl, rfl, trivial⟩, rfl, rfl, d_in rfl rfl zC_flat, d_out _ zC_flat⟩, ?_⟩
    conv => whnf
    exact ⟨.inl rfl, .inl rfl, trivial⟩
  rw [if_pos rfl] at hD
  obtain ⟨c, hc⟩ : ∃ c, toC i = some c := Option.ne_none_iff_exists'.1 (hok rfl)
  rw [hc] at hD
  have hic := fm_cmd (hfm rfl) hc
  subst hic
  have hcin : inCmd c := of_dec hin hi
  have m := may_law c hcin
  dsimp only at hD
  obtain ⟨M, hM⟩ : ∃ M, mayC c = M := ⟨_, rfl⟩
  rw [hM] at m hD
  have hsm : small c.op := toC_small hc
  obtain ⟨op, nm, o, v, n⟩ := c
  have hp0 := part_ok 0 1 [] [numI op, strI nm, strI o, vecI v, numI n] 0 (numI op) rfl rfl
  have hp1 := part_ok 0 2 [] [numI op, strI nm, strI o, vecI v, numI n] 1 (strI nm) rfl rfl
  have hp2 := part_ok 0 2 [] [numI op, strI nm, strI o, vecI v, numI n] 2 (strI o) rfl rfl
  have hp3 := part_ok 0 3 [] [numI op, strI nm, strI o, vecI v, numI n] 3 (vecI v) rfl rfl
  have hp4 := part_ok 0 1 [] [numI op, strI nm, strI o, vecI v, numI n] 4 (numI n) rfl rfl
  have hsm1 := small_ok (numI op) hsm
  have hv := vecOf_ok (vecI v) v (toV_vec v)
  have hls := list_ok 0 [] (itR [numI op, strI nm, strI o, vecI v, numI n]) 5 rfl
  rw [itT_row] at d
  change FCv _ _ _ (.tup [.agg [i64 3, i64 0, ts [], .sl none 4 (itR [numI op, strI nm, strI o, vecI v, numI n])], i64 0]) at d
  obtain ⟨L, hL⟩ : ∃ L, itR [numI op, strI nm, strI o, vecI v, numI n] = L := ⟨_, rfl⟩
  rw [hL] at d hp0 hp1 hp2 hp3 hp4 hls
  refine FCv_of_defer2 (fn := Try.f17) (g := 34) (gn := Try.f34) Try.func17 rfl rfl rfl rfl rfl rfl rfl Try.func34 rfl rfl (of_decide_eq_true rfl) [2000002] ?_
  conv => whnf
  refine ⟨_, d, ?_⟩
  conv => whnf
  refine ⟨_, hls, ?_⟩
  conv => whnf
  refine ⟨_, hp0, ?_⟩
  conv => whnf
  refine ⟨_, hsm1, ?_⟩
  conv => whnf
  refine ⟨_, hp1, ?_⟩
  conv => whnf
  refine ⟨_, hp2, ?_⟩
  conv => whnf
  refine ⟨_, hp3, ?_⟩
  conv => whnf
  refine ⟨_, hv, ?_⟩
  conv => whnf
  refine ⟨_, hp4, ?_⟩
  conv => whnf
  refine ⟨_, m, ?_⟩
  conv => whnf
  cases M with
  | false =>
    conv => whnf
    have hR4 : R = (zeroC, 4) := hD
    rw [hR4]
    refine ⟨[0, 1], [.ptr 0 0 0, .ptr 1 0 0], dM zC 4, dM zC 4, dM zC 4, dd_none _ zC_flat 4, ⟨rfl, ⟨rfl, rfl, trivial⟩, rfl, rfl, d_in rfl rfl zC_flat, d_out _ zC_flat⟩, ?_⟩
    conv => whnf
    exact ⟨.inl rfl, .inl rfl, trivial⟩
  | true =>
    conv => whnf
    have hR4 : R = (⟨op, nm, o, v, n⟩, 0) := hD
    rw [hR4]
    have hfl := cR_flat ⟨op, nm, o, v, n⟩
    refine ⟨[0, 1], [.ptr 0 0 0, .ptr 1 0 0], dM (cR ⟨op, nm, o, v, n⟩) 0, dM (cR ⟨op, nm, o, v, n⟩) 0, dM (cR ⟨op, nm, o, v, n⟩) 0, dd_none _ hfl 0, ⟨rfl, ⟨rfl, rfl, trivial⟩, rfl, rfl, d_in rfl rfl hfl, d_out _ hfl⟩, ?_⟩
    conv => whnf
    exact ⟨.inl rfl, .inl rfl, trivial⟩
end Go.AW.Cm

/- Replies: decoding, walked. -/
set_option linter.unusedVariables false
set_option linter.unusedSimpArgs false
namespace Go.AW.Cm
open Go Go.AW Go.AW.Wir Go.Proofs
set_option maxRecDepth 10000
set_option pp.maxSteps 60

/-- The results of a decoding, as cells. -/
def rM (row : List T) (e : Int) : Mem := [(0, .own 6 [row]), (1, .own 1 [[i64 e]])]
abbrev zRp : List T := [i64 0, ts [], i64 0, i64 0, i64 0, i64 0]
theorem rR_flat (c : Rep) : flatB [rR c] := by
  intro row hr x hx
  obtain rfl := List.mem_singleton.1 hr
  simp only [rR, List.mem_cons, List.mem_nil_iff, or_false] at hx
  rcases hx with rfl | rfl | rfl | rfl | rfl | rfl <;> rfl
theorem zR_flat : flatB [zRp] := rR_flat zeroR
theorem dr_none (row : List T) (hrow : flatB [row]) (e : Int) : FCd Try.prog 42 [.ptr 0 0 0, .ptr 1 0 0] (rM row e) 2 none (rM row e) := by
  refine FCd_of_awp (fn := Try.f42) Try.func42 rfl rfl rfl rfl rfl (of_decide_eq_true rfl) rfl (of_decide_eq_true rfl) rfl [2000002] rfl ?_
  conv => whnf
  refine ⟨[(0, 0), (1, 1)], ⟨rfl, rfl, rfl⟩, trivial, ⟨0, _, rfl, rfl, rfl, renB_flat _ hrow, domB_flat _ hrow⟩, ⟨1, _, rfl, rfl, rfl, renB_flat _ (one_flat e), domB_flat _ (one_flat e)⟩, trivial⟩
theorem dr_some (row : List T) (h4 : row.length = 6) (e : Int) : FCd Try.prog 42 [.ptr 0 0 0, .ptr 1 0 0] (rM row e) 2 (some unl) (rM zRp 4) := by
  match row, h4 with
  | [a, b, c, d, x, y], _ =>
    refine FCd_of_awp (fn := Try.f42) Try.func42 rfl rfl rfl rfl rfl (of_decide_eq_true rfl) rfl (of_decide_eq_true rfl) rfl [2000002] rfl ?_
    conv => whnf
    refine ⟨[(0, 0), (1, 1)], ⟨rfl, rfl, rfl⟩, trivial, ⟨0, _, rfl, rfl, rfl, rfl, domB_flat _ zR_flat⟩, ⟨1, _, rfl, rfl, rfl, rfl, domB_flat _ (one_flat 4)⟩, trivial⟩

theorem r_in {m : Mem} {row : List T} {e : Int} (h0 : m.get 0 = some (.own 6 [row])) (h1 : m.get 1 = some (.own 1 [[i64 e]])) (hrow : flatB [row]) : memIn (asIn [0, 1] 0) m (rM row e) :=
  ⟨⟨rfl, by rw [renB_flat _ hrow]; exact h0, domB_flat _ hrow⟩, ⟨rfl, by rw [renB_flat _ (one_flat e)]; exact h1, domB_flat _ (one_flat e)⟩, trivial⟩
theorem r_out (id : Nat) {row : List T} {e : Int} (hrow : flatB [row]) : memOut (asIn ([0, 1] ++ [id]) 0) (rM row e) (rM row e) :=
  ⟨⟨rfl, rfl, renB_flat _ hrow, domB_flat _ hrow⟩, ⟨rfl, rfl, renB_flat _ (one_flat e), domB_flat _ (one_flat e)⟩, trivial⟩
theorem toR_small {i : It} {c : Rep} (h : toR i = some c) : small c.e := by
  unfold toR at h
  split at h
  · split at h
    · split at h
      · split at h
        · rename_i hs; cases h; exact hs
        · cases h
      · cases h
    · cases h
  · cases h
/-- Bytes of an item that is a command's, or that are none. -/
theorem unp_law1 (s : List UInt8) (hs : s.length ≤ 140737488351232) (hok : (Wir.decode s).2 = 0 → toR (Wir.decode s).1 ≠ none) : FCv Try.prog 19 [ts s] (.tup [rT (decR s).1, i64 (decR s).2]) := by
  have d := decode_law s hs
  have hD : decR s = if (Wir.decode s).2 = 0 then (match toR (Wir.decode s).1 with | some c => if mayR c = true then ((c, 0) : Rep × Int) else (zeroR, 4) | none => (zeroR, 4)) else (zeroR, 4) := rfl
  have hin := decode_in s
  have he := decode_e s
  have hfm := @decode_form s
  obtain ⟨R, hR⟩ : ∃ R, decR s = R := ⟨_, rfl⟩
  rw [hR] at hD ⊢
  obtain ⟨⟨i, e⟩, hi⟩ : ∃ p, Wir.decode s = p := ⟨_, rfl⟩
  rw [hi] at d hD hin he hok hfm
  dsimp only at d hD hin he hok hfm
  rcases he with rfl | he
  rotate_left
  · cases he
    rw [itT_row] at d
    refine FCv_of_defer2 (fn := Try.f19) (g := 42) (gn := Try.f42) Try.func19 rfl rfl rfl rfl rfl rfl rfl Try.func42 rfl rfl (of_decide_eq_true rfl) [2000002] ?_
    conv => whnf
    refine ⟨_, d, ?_⟩
    conv => whnf
    have hR4 : R = (zeroR, 4) := hD
    rw [hR4]
    refine ⟨[0, 1], [.ptr 0 0 0, .ptr 1 0 0], rM zRp 4, rM zRp 4, rM zRp 4, dr_none _ zR_flat 4, ⟨rfl, ⟨rfl, rfl, trivial⟩, rfl, rfl, r_in rfl rfl zR_flat, r_out _ zR_flat⟩, ?_⟩
    conv => whnf
    exact ⟨.inl rfl, .inl rfl, trivial⟩
  rw [if_pos rfl] at hD
  obtain ⟨c, hc⟩ : ∃ c, toR i = some c := Option.ne_none_iff_exists'.1 (hok rfl)
  rw [hc] at hD
  have hic := fm_rep (hfm rfl) hc
  subst hic
  have hcin := (of_decR hin hi).1
  have m := cmay_law c
  dsimp only at hD
  obtain ⟨M, hM⟩ : ∃ M, mayR c = M := ⟨_, rfl⟩
  rw [hM] at m hD
  have hsm : small c.e := toR_small hc
  obtain ⟨op, nm, v, n⟩ := c
  have hp0 := part_ok 0 1 [] [numI op, strI nm, vecI v, numI n] 0 (numI op) rfl rfl
  have hp1 := part_ok 0 2 [] [numI op, strI nm, vecI v, numI n] 1 (strI nm) rfl rfl
  have hp3 := part_ok 0 3 [] [numI op, strI nm, vecI v, numI n] 2 (vecI v) rfl rfl
  have hp4 := part_ok 0 1 [] [numI op, strI nm, vecI v, numI n] 3 (numI n) rfl rfl
  have hsm1 := small_ok (numI op) hsm
  have hv := vecOf_ok (vecI v) v (toV_vec v)
  have hls := list_ok 0 [] (itR [numI op, strI nm, vecI v, numI n]) 4 rfl
  rw [itT_row] at d
  change FCv _ _ _ (.tup [.agg [i64 3, i64 0, ts [], .sl none 4 (itR [numI op, strI nm, vecI v, numI n])], i64 0]) at d
  obtain ⟨L, hL⟩ : ∃ L, itR [numI op, strI nm, vecI v, numI n] = L := ⟨_, rfl⟩
  rw [hL] at d hp0 hp1 hp3 hp4 hls
  refine FCv_of_defer2 (fn := Try.f19) (g := 42) (gn := Try.f42) Try.func19 rfl rfl rfl rfl rfl rfl rfl Try.func42 rfl rfl (of_decide_eq_true rfl) [2000002] ?_
  conv => whnf
  refine ⟨_, d, ?_⟩
  conv => whnf
  refine ⟨_, hls, ?_⟩
  conv => whnf
  refine ⟨_, hp0, ?_⟩
  conv => whnf
  refine ⟨_, hsm1, ?_⟩
  conv => whnf
  refine ⟨_, hp1, ?_⟩
  conv => whnf
  refine ⟨_, hp3, ?_⟩
  conv => whnf
  refine ⟨_, hv, ?_⟩
  conv => whnf
  refine ⟨_, hp4, ?_⟩
  conv => whnf
  refine ⟨_, m, ?_⟩
  conv => whnf
  cases M with
  | false =>
    conv => whnf
    have hR4 : R = (zeroR, 4) := hD
    rw [hR4]
    refine ⟨[0, 1], [.ptr 0 0 0, .ptr 1 0 0], rM zRp 4, rM zRp 4, rM zRp 4, dr_none _ zR_flat 4, ⟨rfl, ⟨rfl, rfl, trivial⟩, rfl, rfl, r_in rfl rfl zR_flat, r_out _ zR_flat⟩, ?_⟩
    conv => whnf
    exact ⟨.inl rfl, .inl rfl, trivial⟩
  | true =>
    conv => whnf
    have hR4 : R = (⟨op, nm, v, n⟩, 0) := hD
    rw [hR4]
    have hfl := rR_flat ⟨op, nm, v, n⟩
    refine ⟨[0, 1], [.ptr 0 0 0, .ptr 1 0 0], rM (rR ⟨op, nm, v, n⟩) 0, rM (rR ⟨op, nm, v, n⟩) 0, rM (rR ⟨op, nm, v, n⟩) 0, dr_none _ hfl 0, ⟨rfl, ⟨rfl, rfl, trivial⟩, rfl, rfl, r_in rfl rfl hfl, r_out _ hfl⟩, ?_⟩
    conv => whnf
    exact ⟨.inl rfl, .inl rfl, trivial⟩
end Go.AW.Cm
