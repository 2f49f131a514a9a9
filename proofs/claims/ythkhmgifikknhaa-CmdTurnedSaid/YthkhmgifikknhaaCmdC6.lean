import Derived.Test.YthkhmgifikknhaaCmdC3
/- Commands and replies: the reference's decoding, walked. -/
set_option linter.unusedVariables false
set_option linter.unusedSimpArgs false
namespace Go.AW.Cm
open Go Go.AW Go.AW.Wir Go.Proofs
set_option maxRecDepth 10000
set_option pp.maxSteps 60

def numV : List It → V
  | [] => (0, 0, 0)
  | [a] => (a.n, 0, 0)
  | [a, b] => (a.n, b.n, 0)
  | a :: b :: c :: _ => (a.n, b.n, c.n)
theorem numbers_0 (k m : Int) (s : List UInt8) : FCv Try.prog 41 [.agg [i64 k, i64 m, ts s, .sl none 4 (itR [])]] (.agg [i64 0, i64 0, i64 0]) := by
  refine FCv_of_awp (fn := Try.f41) (c := bodyC Try.f41) Try.func41 rfl (of_decide_eq_true rfl) [] ?_
  conv => whnf
  refine loop_intro (fun j : Fin 1 => ⟨[(1, .ptr 0 0 0), (2, .ptr 1 0 0), (3, .ptr 2 0 0), (4, i64 (j.1 : Nat))], [(0, .own 4 [[i64 k, i64 m, ts s, .sl none 4 (itR [])]]), (1, .own 3 [[i64 0, i64 0, i64 0]]), (2, .own 3 [arrV (0) (0) (0) j.1])], 26, 3, []⟩) (fun j => 0 - j.1) 0 ?_ ?_
  · exact Wk.intro [] rfl (fun p hp => by cases hp) ⟨.same rfl (by exact rfl), .same rfl (by exact rfl), .same rfl (by exact rfl), .same rfl trivial, trivial⟩
      ⟨⟨rfl, .inl ⟨rfl, it_row _ _ _ _ _⟩⟩, ⟨rfl, .inl ⟨rfl, arr_lt _ _ _ _⟩⟩, ⟨rfl, .inl ⟨rfl, arr_lt _ _ _ _⟩⟩, trivial⟩
  rintro ⟨j, hj⟩
  have hnx : ∀ j, j < 1 → j = 0 := by omega
  rcases hnx j hj with rfl
  · conv => whnf
    exact .inl rfl
theorem numbers_1 (k m : Int) (s : List UInt8) (a : It) : FCv Try.prog 41 [.agg [i64 k, i64 m, ts s, .sl none 4 (itR [a])]] (.agg [i64 a.n, i64 0, i64 0]) := by
  refine FCv_of_awp (fn := Try.f41) (c := bodyC Try.f41) Try.func41 rfl (of_decide_eq_true rfl) [] ?_
  conv => whnf
  refine loop_intro (fun j : Fin 2 => ⟨[(1, .ptr 0 0 0), (2, .ptr 1 0 0), (3, .ptr 2 0 0), (4, i64 (j.1 : Nat))], [(0, .own 4 [[i64 k, i64 m, ts s, .sl none 4 (itR [a])]]), (1, .own 3 [[i64 0, i64 0, i64 0]]), (2, .own 3 [arrV (a.n) (0) (0) j.1])], 26, 3, []⟩) (fun j => 1 - j.1) 0 ?_ ?_
  · exact Wk.intro [] rfl (fun p hp => by cases hp) ⟨.same rfl (by exact rfl), .same rfl (by exact rfl), .same rfl (by exact rfl), .same rfl trivial, trivial⟩
      ⟨⟨rfl, .inl ⟨rfl, it_row _ _ _ _ _⟩⟩, ⟨rfl, .inl ⟨rfl, arr_lt _ _ _ _⟩⟩, ⟨rfl, .inl ⟨rfl, arr_lt _ _ _ _⟩⟩, trivial⟩
  rintro ⟨j, hj⟩
  have hnx : ∀ j, j < 2 → j = 0 ∨ j = 1 := by omega
  rcases hnx j hj with rfl | rfl
  · conv => whnf
    refine ⟨Int.natCast_nonneg _, ?_⟩
    conv => whnf
    refine ⟨⟨Int.natCast_nonneg _, by dsimp only; omega⟩, ?_⟩
    conv => whnf
    refine Nx.intro ⟨1, by decide⟩ (by dsimp only; omega) ?_
    exact Wk.intro [] rfl (fun p hp => by cases hp) ⟨.same rfl (by exact rfl), .same rfl (by exact rfl), .same rfl (by exact rfl), .same rfl trivial, trivial⟩
      ⟨⟨rfl, .inl ⟨rfl, it_row _ _ _ _ _⟩⟩, ⟨rfl, .inl ⟨rfl, arr_lt _ _ _ _⟩⟩, ⟨rfl, .inl ⟨rfl, arr_lt _ _ _ _⟩⟩, trivial⟩
  · conv => whnf
    exact .inl rfl
theorem numbers_2 (k m : Int) (s : List UInt8) (a b : It) : FCv Try.prog 41 [.agg [i64 k, i64 m, ts s, .sl none 4 (itR [a, b])]] (.agg [i64 a.n, i64 b.n, i64 0]) := by
  refine FCv_of_awp (fn := Try.f41) (c := bodyC Try.f41) Try.func41 rfl (of_decide_eq_true rfl) [] ?_
  conv => whnf
  refine loop_intro (fun j : Fin 3 => ⟨[(1, .ptr 0 0 0), (2, .ptr 1 0 0), (3, .ptr 2 0 0), (4, i64 (j.1 : Nat))], [(0, .own 4 [[i64 k, i64 m, ts s, .sl none 4 (itR [a, b])]]), (1, .own 3 [[i64 0, i64 0, i64 0]]), (2, .own 3 [arrV (a.n) (b.n) (0) j.1])], 26, 3, []⟩) (fun j => 2 - j.1) 0 ?_ ?_
  · exact Wk.intro [] rfl (fun p hp => by cases hp) ⟨.same rfl (by exact rfl), .same rfl (by exact rfl), .same rfl (by exact rfl), .same rfl trivial, trivial⟩
      ⟨⟨rfl, .inl ⟨rfl, it_row _ _ _ _ _⟩⟩, ⟨rfl, .inl ⟨rfl, arr_lt _ _ _ _⟩⟩, ⟨rfl, .inl ⟨rfl, arr_lt _ _ _ _⟩⟩, trivial⟩
  rintro ⟨j, hj⟩
  have hnx : ∀ j, j < 3 → j = 0 ∨ j = 1 ∨ j = 2 := by omega
  rcases hnx j hj with rfl | rfl | rfl
  · conv => whnf
    refine ⟨Int.natCast_nonneg _, ?_⟩
    conv => whnf
    refine ⟨⟨Int.natCast_nonneg _, by dsimp only; omega⟩, ?_⟩
    conv => whnf
    refine Nx.intro ⟨1, by decide⟩ (by dsimp only; omega) ?_
    exact Wk.intro [] rfl (fun p hp => by cases hp) ⟨.same rfl (by exact rfl), .same rfl (by exact rfl), .same rfl (by exact rfl), .same rfl trivial, trivial⟩
      ⟨⟨rfl, .inl ⟨rfl, it_row _ _ _ _ _⟩⟩, ⟨rfl, .inl ⟨rfl, arr_lt _ _ _ _⟩⟩, ⟨rfl, .inl ⟨rfl, arr_lt _ _ _ _⟩⟩, trivial⟩
  · conv => whnf
    refine ⟨Int.natCast_nonneg _, ?_⟩
    conv => whnf
    refine ⟨⟨Int.natCast_nonneg _, by dsimp only; omega⟩, ?_⟩
    conv => whnf
    refine Nx.intro ⟨2, by decide⟩ (by dsimp only; omega) ?_
    exact Wk.intro [] rfl (fun p hp => by cases hp) ⟨.same rfl (by exact rfl), .same rfl (by exact rfl), .same rfl (by exact rfl), .same rfl trivial, trivial⟩
      ⟨⟨rfl, .inl ⟨rfl, it_row _ _ _ _ _⟩⟩, ⟨rfl, .inl ⟨rfl, arr_lt _ _ _ _⟩⟩, ⟨rfl, .inl ⟨rfl, arr_lt _ _ _ _⟩⟩, trivial⟩
  · conv => whnf
    exact .inl rfl
theorem numbers_3 (k m : Int) (s : List UInt8) (a b c : It) (r : List It) : FCv Try.prog 41 [.agg [i64 k, i64 m, ts s, .sl none 4 (itR (a :: b :: c :: r))]] (.agg [i64 a.n, i64 b.n, i64 c.n]) := by
  refine FCv_of_awp (fn := Try.f41) (c := bodyC Try.f41) Try.func41 rfl (of_decide_eq_true rfl) [] ?_
  conv => whnf
  refine loop_intro (fun j : Fin 4 => ⟨[(1, .ptr 0 0 0), (2, .ptr 1 0 0), (3, .ptr 2 0 0), (4, i64 (j.1 : Nat))], [(0, .own 4 [[i64 k, i64 m, ts s, .sl none 4 (itR (a :: b :: c :: r))]]), (1, .own 3 [[i64 0, i64 0, i64 0]]), (2, .own 3 [arrV (a.n) (b.n) (c.n) j.1])], 26, 3, []⟩) (fun j => 3 - j.1) 0 ?_ ?_
  · exact Wk.intro [] rfl (fun p hp => by cases hp) ⟨.same rfl (by exact rfl), .same rfl (by exact rfl), .same rfl (by exact rfl), .same rfl trivial, trivial⟩
      ⟨⟨rfl, .inl ⟨rfl, it_row _ _ _ _ _⟩⟩, ⟨rfl, .inl ⟨rfl, arr_lt _ _ _ _⟩⟩, ⟨rfl, .inl ⟨rfl, arr_lt _ _ _ _⟩⟩, trivial⟩
  rintro ⟨j, hj⟩
  have hnx : ∀ j, j < 4 → j = 0 ∨ j = 1 ∨ j = 2 ∨ j = 3 := by omega
  rcases hnx j hj with rfl | rfl | rfl | rfl
  · conv => whnf
    rw [show decide (((0 : Nat) : Int) < (((itR (a :: b :: c :: r)).length : Nat) : Int)) = true from decide_eq_true (by rw [itR_len]; simp only [List.length_cons]; omega)]
    conv => whnf
    refine ⟨Int.natCast_nonneg _, ?_⟩
    conv => whnf
    refine ⟨⟨Int.natCast_nonneg _, by dsimp only; omega⟩, ?_⟩
    conv => whnf
    refine Nx.intro ⟨1, by decide⟩ (by dsimp only; omega) ?_
    exact Wk.intro [] rfl (fun p hp => by cases hp) ⟨.same rfl (by exact rfl), .same rfl (by exact rfl), .same rfl (by exact rfl), .same rfl trivial, trivial⟩
      ⟨⟨rfl, .inl ⟨rfl, it_row _ _ _ _ _⟩⟩, ⟨rfl, .inl ⟨rfl, arr_lt _ _ _ _⟩⟩, ⟨rfl, .inl ⟨rfl, arr_lt _ _ _ _⟩⟩, trivial⟩
  · conv => whnf
    rw [show decide (((1 : Nat) : Int) < (((itR (a :: b :: c :: r)).length : Nat) : Int)) = true from decide_eq_true (by rw [itR_len]; simp only [List.length_cons]; omega)]
    conv => whnf
    refine ⟨Int.natCast_nonneg _, ?_⟩
    conv => whnf
    refine ⟨⟨Int.natCast_nonneg _, by dsimp only; omega⟩, ?_⟩
    conv => whnf
    refine Nx.intro ⟨2, by decide⟩ (by dsimp only; omega) ?_
    exact Wk.intro [] rfl (fun p hp => by cases hp) ⟨.same rfl (by exact rfl), .same rfl (by exact rfl), .same rfl (by exact rfl), .same rfl trivial, trivial⟩
      ⟨⟨rfl, .inl ⟨rfl, it_row _ _ _ _ _⟩⟩, ⟨rfl, .inl ⟨rfl, arr_lt _ _ _ _⟩⟩, ⟨rfl, .inl ⟨rfl, arr_lt _ _ _ _⟩⟩, trivial⟩
  · conv => whnf
    rw [show decide (((2 : Nat) : Int) < (((itR (a :: b :: c :: r)).length : Nat) : Int)) = true from decide_eq_true (by rw [itR_len]; simp only [List.length_cons]; omega)]
    conv => whnf
    refine ⟨Int.natCast_nonneg _, ?_⟩
    conv => whnf
    refine ⟨⟨Int.natCast_nonneg _, by dsimp only; omega⟩, ?_⟩
    conv => whnf
    refine Nx.intro ⟨3, by decide⟩ (by dsimp only; omega) ?_
    exact Wk.intro [] rfl (fun p hp => by cases hp) ⟨.same rfl (by exact rfl), .same rfl (by exact rfl), .same rfl (by exact rfl), .same rfl trivial, trivial⟩
      ⟨⟨rfl, .inl ⟨rfl, it_row _ _ _ _ _⟩⟩, ⟨rfl, .inl ⟨rfl, arr_lt _ _ _ _⟩⟩, ⟨rfl, .inl ⟨rfl, arr_lt _ _ _ _⟩⟩, trivial⟩
  · conv => whnf
    exact .inl rfl
theorem numbers_law (i : It) : FCv Try.prog 41 [iT i] (.agg [i64 (numV i.l).1, i64 (numV i.l).2.1, i64 (numV i.l).2.2]) := by
  obtain ⟨k, n, s, l⟩ := i
  match l with
  | [] => exact numbers_0 k n s
  | [a] => exact numbers_1 k n s a
  | [a, b] => exact numbers_2 k n s a b
  | a :: b :: c :: r => exact numbers_3 k n s a b c r
end Go.AW.Cm

/- Commands and replies: the reference's decoding, walked, on. -/
set_option linter.unusedVariables false
set_option linter.unusedSimpArgs false
namespace Go.AW.Cm
open Go Go.AW Go.AW.Wir Go.Proofs
set_option maxRecDepth 10000
set_option pp.maxSteps 60

theorem strD (a b : List UInt8) : (ByteArray.toList ⟨a.toArray⟩ == ByteArray.toList ⟨b.toArray⟩) = decide (a = b) := by
  rw [ByteArray.toList_eq, ByteArray.toList_eq, Bool.eq_iff_iff, beq_iff_eq, decide_eq_true_eq]
theorem fm_len {i : It} (hf : (enV (vI i)).isSome = true) (hb : bigI i = false) : i.s.length ≤ 4096 := by
  obtain ⟨k, n, s, l⟩ := i
  show s.length ≤ 4096
  rw [vI] at hf
  split at hf
  · rename_i h; rw [h.2.1]; exact Nat.zero_le _
  · split at hf
    · rename_i h
      rw [bigI, h.1] at hb
      simp only [Bool.or_eq_false_iff, Bool.and_eq_false_iff] at hb
      rcases hb.1 with h | h
      · simp at h
      · have := of_decide_eq_false h; omega
    · split at hf
      · rw [enV] at hf; cases hf
      · rename_i h
        simp only [not_or, Classical.not_not] at h
        rw [h.2.2]; exact Nat.zero_le _
/-- What stands in a list that was read. -/
theorem dec_parts {s : List UInt8} {i : It} (h : Wir.decode s = (i, 0)) : ∀ j ∈ i.l, inI j ∧ j.s.length ≤ 4096 := by
  have h1 := decode_enc (s := s) (by rw [h])
  have h4 := decode_in s
  have h5 := decode_form (s := s) (by rw [h])
  rw [h] at h1 h4 h5
  dsimp only at h1 h4 h5
  have h2 : (encode i).2 = 0 := by rw [h1]
  have h3 := (enc_iff.1 h2).1.2.2
  obtain ⟨k, n, t, l⟩ := i
  intro j hj
  change j ∈ l at hj
  rw [inI] at h4
  rw [bigI, Bool.or_eq_false_iff] at h3
  refine ⟨inIs_mem h4.2 hj, fm_len ?_ ?_⟩
  · by_cases hk : k = 3
    · exact (fm_row hk h5).2.2 j hj
    · exfalso
      have : l = [] := by
        rw [vI] at h5
        split at h5
        · rename_i hc; exact hc.2.2
        · split at h5
          · rename_i hc; exact hc.2.2
          · rw [if_pos (.inl hk), enV] at h5; cases h5
      rw [this] at hj; cases hj
  · have : ∀ l : List It, bigL l = false → j ∈ l → bigI j = false := by
      intro l
      induction l with
      | nil => intro _ h; cases h
      | cons a r ih =>
        intro h hm
        rw [bigL, Bool.or_eq_false_iff] at h
        rcases List.mem_cons.1 hm with rfl | hm
        · exact h.1
        · exact ih h.2 hm
    exact this l h3.2 hj
theorem numV_in {l : List It} (h : ∀ j ∈ l, inI j) : inVec (numV l) := by
  have hn : ∀ j ∈ l, in64 j.n := by
    intro j hj
    have := h j hj
    obtain ⟨k, n, s, r⟩ := j
    rw [inI] at this
    exact this.1.1
  have h0 : in64 0 := ⟨by decide, by decide⟩
  match l, hn with
  | [], _ => exact ⟨h0, h0, h0⟩
  | [a], hn => exact ⟨hn a (by simp), h0, h0⟩
  | [a, b], hn => exact ⟨hn a (by simp), hn b (by simp), h0⟩
  | a :: b :: c :: r, hn => exact ⟨hn a (by simp), hn b (by simp), hn c (by simp)⟩
theorem in_l {i : It} (h : inI i) : ∀ j ∈ i.l, inI j := by
  obtain ⟨k, n, s, l⟩ := i
  rw [inI] at h
  exact fun j hj => inIs_mem h.2 hj
theorem in_n {i : It} (h : inI i) : in64 i.n := by
  obtain ⟨k, n, s, l⟩ := i
  rw [inI] at h
  exact h.1.1
/-- The command that the reference reads of a list of five. -/
def refC (a b c d x : It) : Cmd := ⟨a.n, b.s, c.s, numV d.l, x.n⟩
theorem refC_in {s : List UInt8} {i a b c d x : It} (h : Wir.decode s = (i, 0)) (hl : i.l = [a, b, c, d, x]) : inCmd (refC a b c d x) := by
  have hp := dec_parts h
  rw [hl] at hp
  obtain ⟨a1, a2⟩ := hp a (by simp)
  obtain ⟨b1, b2⟩ := hp b (by simp)
  obtain ⟨c1, c2⟩ := hp c (by simp)
  obtain ⟨d1, d2⟩ := hp d (by simp)
  obtain ⟨x1, x2⟩ := hp x (by simp)
  exact ⟨in_n a1, Nat.le_trans b2 (by decide), Nat.le_trans c2 (by decide), numV_in (in_l d1), in_n x1⟩
theorem refC_item {i a b c d x : It} {e : Cmd} (h : i = itemC e) (hl : i.l = [a, b, c, d, x]) : refC a b c d x = e := by
  subst h
  have : [numI e.op, strI e.name, strI e.of, vecI e.v, numI e.n] = [a, b, c, d, x] := hl
  simp only [List.cons.injEq] at this
  obtain ⟨rfl, rfl, rfl, rfl, rfl, _⟩ := this
  rfl
/-- The command that bytes are, as the reference tells it. -/
theorem decC_ref {s : List UInt8} {i a b c d x : It} (h : Wir.decode s = (i, 0)) (hl : i.l = [a, b, c, d, x]) :
    decC s = if a.n < 0 ∨ 99 < a.n ∨ (encC (refC a b c d x)).2 ≠ 0 ∨ (encC (refC a b c d x)).1 ≠ s then (zeroC, 4) else (refC a b c d x, 0) := by
  by_cases hE : encC (refC a b c d x) = (s, 0)
  · have h1 := encC_dec (refC_in h hl) hE
    have h2 := (mayC_iff.1 (encC_may hE).1).1
    rw [if_neg, h1]
    rw [hE]
    have e1 : (refC a b c d x).op = a.n := rfl
    simp
    omega
  · rw [if_pos]
    · rcases decC_or s with h0 | h0
      · exact h0
      · exfalso
        have h1 : decC s = ((decC s).1, 0) := Prod.ext rfl h0
        have h2 := (decC_item h1).1
        rw [h] at h2
        have h3 := refC_item (congrArg Prod.fst h2) hl
        apply hE
        rw [h3]
        exact decC_enc h1
    · by_cases h2 : (encC (refC a b c d x)).2 ≠ 0
      · exact .inr (.inr (.inl h2))
      · refine .inr (.inr (.inr fun h1 => hE (Prod.ext h1 ?_)))
        exact Classical.not_not.1 h2
theorem decC_no5 {s : List UInt8} {i : It} (h : Wir.decode s = (i, 0)) (hl : i.l.length ≠ 5) : decC s = (zeroC, 4) := by
  unfold decC
  rw [h]
  dsimp only
  rw [if_pos rfl, toC_l (.inr hl)]
theorem decC_e {s : List UInt8} (h : Wir.decode s = (noIt, 4)) : decC s = (zeroC, 4) := by
  unfold decC
  rw [h]
  rfl

theorem rdec_law (s : List UInt8) (hs : s.length ≤ 140737488351232) : FCv Try.prog 18 [ts s] (.tup [cT (decC s).1, i64 (decC s).2]) := by
  have d := rdecode_law s hs
  have he := decode_e s
  have hx1 := @decC_ref s
  have hx2 := @decC_no5 s
  have hx3 := @decC_e s
  have hx4 := @refC_in s
  obtain ⟨R, hR⟩ : ∃ R, decC s = R := ⟨_, rfl⟩
  rw [hR] at hx1 hx2 hx3 ⊢
  obtain ⟨⟨i, e⟩, hi⟩ : ∃ p, Wir.decode s = p := ⟨_, rfl⟩
  rw [hi] at d he hx3
  dsimp only at d he
  rw [itT_row] at d
  rcases he with rfl | he
  rotate_left
  · rw [hx3 he]
    cases he
    refine FCv_of_awp (fn := Try.f18) (c := bodyC Try.f18) Try.func18 rfl (of_decide_eq_true rfl) [] ?_
    conv => whnf
    refine ⟨_, d, ?_⟩
    conv => whnf
    exact ⟨.inl rfl, .inl rfl, trivial⟩
  by_cases hl : i.l.length = 5
  rotate_left
  · rw [hx2 hi hl]
    refine FCv_of_awp (fn := Try.f18) (c := bodyC Try.f18) Try.func18 rfl (of_decide_eq_true rfl) [] ?_
    conv => whnf
    refine ⟨_, d, ?_⟩
    conv => whnf
    rw [qn (by rw [itR_len]; omega)]
    conv => whnf
    exact ⟨.inl rfl, .inl rfl, trivial⟩
  obtain ⟨a, b, c, d', x, hl⟩ := len5 hl
  have hr := hx1 hi hl
  have hci := hx4 hi hl
  have hc := renc_law (refC a b c d' x) hci
  have hn := numbers_law d'
  rw [hl] at d
  obtain ⟨⟨eb, ef⟩, hE⟩ : ∃ p, encC (refC a b c d' x) = p := ⟨_, rfl⟩
  rw [hE] at hr hc
  unfold cT refC at hc
  dsimp only at hc hr
  have hfin : R = (zeroC, 4) ∨ R = (refC a b c d' x, 0) := by rw [hr]; split; exact .inl rfl; exact .inr rfl
  refine FCv_of_awp (fn := Try.f18) (c := bodyC Try.f18) Try.func18 rfl (of_decide_eq_true rfl) [] ?_
  conv => whnf
  refine ⟨_, d, ?_⟩
  conv => whnf
  refine ⟨by decide, ?_⟩
  conv => whnf
  refine br_intro (fun h1 => ?_) (fun h1 => ?_) <;> (rw [h1]; conv => whnf)
  · rw [if_pos (.inl (of_decide_eq_true h1))] at hr
    rw [hr]
    exact ⟨.inl rfl, .inl rfl, trivial⟩
  refine ⟨by decide, ?_⟩
  conv => whnf
  refine br_intro (fun h2 => ?_) (fun h2 => ?_) <;> (rw [h2]; conv => whnf)
  · rw [if_pos (.inr (.inl (of_decide_eq_true h2)))] at hr
    rw [hr]
    exact ⟨.inl rfl, .inl rfl, trivial⟩
  replace h1 := of_decide_eq_false h1
  replace h2 := of_decide_eq_false h2
  refine ⟨by decide, ?_⟩
  conv => whnf
  refine ⟨by decide, ?_⟩
  conv => whnf
  refine ⟨by decide, ?_⟩
  conv => whnf
  refine ⟨by decide, ?_⟩
  conv => whnf
  rw [itC_eq d']
  refine ⟨_, hn, ?_⟩
  conv => whnf
  refine ⟨by decide, ?_⟩
  conv => whnf
  refine ⟨_, hc, ?_⟩
  conv => whnf
  by_cases h3 : ef = 0
  · rw [qq h3]
    conv => whnf
    rw [strD]
    by_cases h4 : eb = s
    · rw [decide_eq_true h4]
      conv => whnf
      rw [if_neg (by simp only [not_or, Classical.not_not]; exact ⟨h1, h2, h3, h4⟩)] at hr
      rw [hr]
      exact ⟨.inl rfl, .inl rfl, trivial⟩
    · rw [decide_eq_false h4]
      conv => whnf
      rw [if_pos (.inr (.inr (.inr h4)))] at hr
      rw [hr]
      exact ⟨.inl rfl, .inl rfl, trivial⟩
  · rw [qn h3]
    conv => whnf
    rw [if_pos (.inr (.inr (.inl h3)))] at hr
    rw [hr]
    exact ⟨.inl rfl, .inl rfl, trivial⟩
end Go.AW.Cm

/- Commands and replies: the reference's decoding of replies, walked. -/
set_option linter.unusedVariables false
set_option linter.unusedSimpArgs false
namespace Go.AW.Cm
open Go Go.AW Go.AW.Wir Go.Proofs
set_option maxRecDepth 10000
set_option pp.maxSteps 60

/-- The reply that the reference reads of a list of four. -/
def refR (a b c d : It) : Rep := ⟨a.n, b.s, numV c.l, d.n⟩
theorem refR_in {s : List UInt8} {i a b c d : It} (h : Wir.decode s = (i, 0)) (hl : i.l = [a, b, c, d]) : inRep (refR a b c d) := by
  have hp := dec_parts h
  rw [hl] at hp
  obtain ⟨a1, a2⟩ := hp a (by simp)
  obtain ⟨b1, b2⟩ := hp b (by simp)
  obtain ⟨c1, c2⟩ := hp c (by simp)
  obtain ⟨d1, d2⟩ := hp d (by simp)
  exact ⟨in_n a1, numV_in (in_l c1), in_n d1⟩
theorem refR_item {i a b c d : It} {e : Rep} (h : i = itemR e) (hl : i.l = [a, b, c, d]) : refR a b c d = e := by
  subst h
  have : [numI e.e, strI e.s, vecI e.v, numI e.n] = [a, b, c, d] := hl
  simp only [List.cons.injEq] at this
  obtain ⟨rfl, rfl, rfl, rfl, _⟩ := this
  rfl
theorem toR_l {i : It} (h : i.k ≠ 3 ∨ i.l.length ≠ 4) : toR i = none := by
  cases hc : toR i with
  | none => rfl
  | some c =>
    exfalso
    unfold toR at hc
    split at hc
    · split at hc
      · rename_i hk; exact h.elim (fun h => h hk) (fun h => h rfl)
      · cases hc
    · cases hc
/-- The reply that bytes are, as the reference tells it. -/
theorem decR_ref {s : List UInt8} {i a b c d : It} (h : Wir.decode s = (i, 0)) (hl : i.l = [a, b, c, d]) :
    decR s = if a.n < 0 ∨ 255 < a.n ∨ (encR (refR a b c d)).2 ≠ 0 ∨ (encR (refR a b c d)).1 ≠ s then (zeroR, 4) else (refR a b c d, 0) := by
  by_cases hE : encR (refR a b c d) = (s, 0)
  · have h1 := encR_dec (refR_in h hl) hE
    have h2 := (mayR_iff.1 (encR_may hE).1)
    rw [if_neg, h1]
    rw [hE]
    have e1 : (refR a b c d).e = a.n := rfl
    simp
    omega
  · rw [if_pos]
    · rcases decR_or s with h0 | h0
      · exact h0
      · exfalso
        have h1 : decR s = ((decR s).1, 0) := Prod.ext rfl h0
        have h2 := (decR_item h1).1
        rw [h] at h2
        have h3 := refR_item (congrArg Prod.fst h2) hl
        apply hE
        rw [h3]
        exact decR_enc h1
    · by_cases h2 : (encR (refR a b c d)).2 ≠ 0
      · exact .inr (.inr (.inl h2))
      · refine .inr (.inr (.inr fun h1 => hE (Prod.ext h1 ?_)))
        exact Classical.not_not.1 h2
theorem decR_no4 {s : List UInt8} {i : It} (h : Wir.decode s = (i, 0)) (hl : i.l.length ≠ 4) : decR s = (zeroR, 4) := by
  unfold decR
  rw [h]
  dsimp only
  rw [if_pos rfl, toR_l (.inr hl)]
theorem decR_e {s : List UInt8} (h : Wir.decode s = (noIt, 4)) : decR s = (zeroR, 4) := by
  unfold decR
  rw [h]
  rfl

theorem runp_law (s : List UInt8) (hs : s.length ≤ 140737488351232) : FCv Try.prog 20 [ts s] (.tup [rT (decR s).1, i64 (decR s).2]) := by
  have d := rdecode_law s hs
  have he := decode_e s
  have hx1 := @decR_ref s
  have hx2 := @decR_no4 s
  have hx3 := @decR_e s
  have hx4 := @refR_in s
  obtain ⟨R, hR⟩ : ∃ R, decR s = R := ⟨_, rfl⟩
  rw [hR] at hx1 hx2 hx3 ⊢
  obtain ⟨⟨i, e⟩, hi⟩ : ∃ p, Wir.decode s = p := ⟨_, rfl⟩
  rw [hi] at d he hx3
  dsimp only at d he
  rw [itT_row] at d
  rcases he with rfl | he
  rotate_left
  · rw [hx3 he]
    cases he
    refine FCv_of_awp (fn := Try.f20) (c := bodyC Try.f20) Try.func20 rfl (of_decide_eq_true rfl) [] ?_
    conv => whnf
    refine ⟨_, d, ?_⟩
    conv => whnf
    exact ⟨.inl rfl, .inl rfl, trivial⟩
  by_cases hl : i.l.length = 4
  rotate_left
  · rw [hx2 hi hl]
    refine FCv_of_awp (fn := Try.f20) (c := bodyC Try.f20) Try.func20 rfl (of_decide_eq_true rfl) [] ?_
    conv => whnf
    refine ⟨_, d, ?_⟩
    conv => whnf
    rw [qn (by rw [itR_len]; omega)]
    conv => whnf
    exact ⟨.inl rfl, .inl rfl, trivial⟩
  obtain ⟨a, b, c, d', hl⟩ := len4 hl
  have hr := hx1 hi hl
  have hci := hx4 hi hl
  have hc := rpack_law (refR a b c d') hci
  have hn := numbers_law c
  rw [hl] at d
  obtain ⟨⟨eb, ef⟩, hE⟩ : ∃ p, encR (refR a b c d') = p := ⟨_, rfl⟩
  rw [hE] at hr hc
  unfold rT refR at hc
  dsimp only at hc hr
  have hfin : R = (zeroR, 4) ∨ R = (refR a b c d', 0) := by rw [hr]; split; exact .inl rfl; exact .inr rfl
  refine FCv_of_awp (fn := Try.f20) (c := bodyC Try.f20) Try.func20 rfl (of_decide_eq_true rfl) [] ?_
  conv => whnf
  refine ⟨_, d, ?_⟩
  conv => whnf
  refine ⟨by decide, ?_⟩
  conv => whnf
  refine br_intro (fun h1 => ?_) (fun h1 => ?_) <;> (rw [h1]; conv => whnf)
  · rw [if_pos (.inl (of_decide_eq_true h1))] at hr
    rw [hr]
    exact ⟨.inl rfl, .inl rfl, trivial⟩
  refine ⟨by decide, ?_⟩
  conv => whnf
  refine br_intro (fun h2 => ?_) (fun h2 => ?_) <;> (rw [h2]; conv => whnf)
  · rw [if_pos (.inr (.inl (of_decide_eq_true h2)))] at hr
    rw [hr]
    exact ⟨.inl rfl, .inl rfl, trivial⟩
  replace h1 := of_decide_eq_false h1
  replace h2 := of_decide_eq_false h2
  refine ⟨by decide, ?_⟩
  conv => whnf
  refine ⟨by decide, ?_⟩
  conv => whnf
  refine ⟨by decide, ?_⟩
  conv => whnf
  rw [itC_eq c]
  refine ⟨_, hn, ?_⟩
  conv => whnf
  refine ⟨by decide, ?_⟩
  conv => whnf
  refine ⟨_, hc, ?_⟩
  conv => whnf
  by_cases h3 : ef = 0
  · rw [qq h3]
    conv => whnf
    rw [strD]
    by_cases h4 : eb = s
    · rw [decide_eq_true h4]
      conv => whnf
      rw [if_neg (by simp only [not_or, Classical.not_not]; exact ⟨h1, h2, h3, h4⟩)] at hr
      rw [hr]
      exact ⟨.inl rfl, .inl rfl, trivial⟩
    · rw [decide_eq_false h4]
      conv => whnf
      rw [if_pos (.inr (.inr (.inr h4)))] at hr
      rw [hr]
      exact ⟨.inl rfl, .inl rfl, trivial⟩
  · rw [qn h3]
    conv => whnf
    rw [if_pos (.inr (.inr (.inl h3)))] at hr
    rw [hr]
    exact ⟨.inl rfl, .inl rfl, trivial⟩
end Go.AW.Cm
