import Derived.Test.YtagligpagpaceaaWirW8
import Derived.Test.YtagligpagpaceaaP4
/- The wire: sizes, counts of items, walked. -/
set_option linter.unusedVariables false
set_option linter.unusedSimpArgs false
namespace Go.AW.Wir
open Go Go.AW Go.Proofs
set_option maxRecDepth 10000
set_option pp.maxSteps 60

theorem itT_row (i : It) : itT i = .agg [i64 i.k, i64 i.n, str i.s, .sl none 4 (itR i.l)] := congrArg T.agg (itC_eq _)
theorem itT_mk (k n : Int) (s : List UInt8) (l : List It) : itT (.mk k n s l) = .agg [i64 k, i64 n, str s, .sl none 4 (itR l)] := congrArg T.agg (itC_eq _)
theorem size_law (i : It) (hi : inI i) : FCv Try.prog 15 [itT i] (i64 ((encode i).1.length : Nat)) := by
  have h := encode_law i hi
  generalize encode i = p at h ⊢
  rw [itT_row] at h ⊢
  refine FCv_of_awp (fn := Try.f15) (c := bodyC Try.f15) Try.func15 rfl (of_decide_eq_true rfl) [] ?_
  conv => whnf
  refine ⟨_, h, ?_⟩
  conv => whnf
  exact .inl (congrArg (fun z : Nat => i64 (z : Int)) (bytesR_len _))
theorem num_law (n : Int) : FCv Try.prog 16 [i64 n] (itT (.mk 1 n [] [])) := by
  refine FCv_of_awp (fn := Try.f16) (c := bodyC Try.f16) Try.func16 rfl (of_decide_eq_true rfl) [] ?_
  conv => whnf
  exact .inr (.inr (.inr ⟨.inl rfl, .inl rfl, .inl rfl, .inr (.inl ⟨rfl, 4, rfl⟩), trivial⟩))
theorem str_law (s : List UInt8) : FCv Try.prog 17 [str s] (itT (.mk 2 0 s [])) := by
  refine FCv_of_awp (fn := Try.f17) (c := bodyC Try.f17) Try.func17 rfl (of_decide_eq_true rfl) [] ?_
  conv => whnf
  exact .inr (.inr (.inr ⟨.inl rfl, .inl rfl, .inl rfl, .inr (.inl ⟨rfl, 4, rfl⟩), trivial⟩))
theorem row_law (l : List It) : FCv Try.prog 14 [.sl none 4 (itR l)] (itT (.mk 3 0 [] l)) := by
  refine FCv_of_awp (fn := Try.f14) (c := bodyC Try.f14) Try.func14 rfl (of_decide_eq_true rfl) [] ?_
  conv => whnf
  exact .inl (itT_mk 3 0 [] l).symm

def ItmOk (i : It) : Prop := ∀ most deep : Int, 0 ≤ most → most ≤ 100000 → 1 ≤ deep → deep ≤ 13 → FCv Try.prog 11 [itT i, i64 most, i64 deep] (.tup [i64 (itN i most deep).1, i64 (itN i most deep).2])
theorem items_mk (k n : Int) (s : List UInt8) (l : List It) (ih : ∀ i ∈ l, ItmOk i) : ItmOk (.mk k n s l) := by
  intro most deep hm0 hm1 hd1 hd2
  rw [itN_mk, itT_mk]
  refine FCv_of_awp (fn := Try.f11) (c := bodyC Try.f11) Try.func11 rfl (of_decide_eq_true rfl) [] ?_
  conv => whnf
  refine loop_intro (fun y : { p : Nat × Int × Int // p.1 ≤ l.length ∧ (p.1 : Int) + 1 ≤ p.2.1 ∧ p.2.1 ≤ most + 1 ∧ deep ≤ p.2.2 ∧ p.2.2 ≤ 13 ∧ itNL l most deep 1 deep = itNL (l.drop p.1) most deep p.2.1 p.2.2 } =>
    ⟨[(1, i64 most), (2, i64 deep), (3, .ptr 0 0 0), (8, i64 y.1.2.1), (9, i64 y.1.2.2), (10, i64 (y.1.1 : Nat))], [(0, .own 4 [[i64 k, i64 n, str s, .sl none 4 (itR l)]])], 53, 1, []⟩)
    (fun y => l.length - y.1.1) ⟨(0, 1, deep), Nat.zero_le _, by dsimp only; omega, by dsimp only; omega, Int.le_refl _, hd2, rfl⟩ ?_ ?_
  · exact Wk.intro [] rfl (fun p hp => by cases hp) ⟨.same rfl trivial, .same rfl trivial, .same rfl (by exact rfl), .same rfl trivial, .same rfl trivial, .same rfl trivial, trivial⟩ ⟨⟨rfl, .inl ⟨rfl, it_row _ _ _ _ _⟩⟩, trivial⟩
  rintro ⟨⟨j, a, d⟩, g1, g2, g3, g4, g5, g6⟩
  dsimp only at g1 g2 g3 g4 g5 g6 ⊢
  conv => whnf
  refine br_intro (fun h1 => ?_) (fun h1 => ?_) <;> (rw [h1]; conv => whnf) <;> rw [itR_len] at h1
  · have hj : j < l.length := by have := of_decide_eq_true h1; omega
    have hdr : l.drop j = l[j] :: l.drop (j + 1) := List.drop_eq_getElem_cons hj
    rw [hdr, itNL_cons] at g6
    refine br_intro (fun h2 => ?_) (fun h2 => ?_) <;> (rw [h2]; conv => whnf)
    · have h2' := of_decide_eq_true h2
      refine br_intro (fun h3 => ?_) (fun h3 => ?_) <;> (rw [h3]; conv => whnf)
      · have h3' := of_decide_eq_true h3
        refine ⟨by omega, nthK_intro (itR_get (List.getElem?_eq_getElem hj)) ?_⟩
        conv => whnf
        rw [wrap_i64 (most - a) (by omega) (by omega), wrap_i64 (deep + 1) (by omega) (by omega)]
        have hc := ih l[j] (List.getElem_mem hj) (most - a) (deep + 1) (by omega) (by omega) (by omega) (by omega)
        have hr := itN_rng l[j] (most - a) (deep + 1) (by omega) (by omega)
        rw [if_pos ⟨h2', h3'⟩] at g6
        generalize itN l[j] (most - a) (deep + 1) = p at hc hr g6
        obtain ⟨p1, p2⟩ := p
        dsimp only at hc hr g6
        refine ⟨_, hc, ?_⟩
        conv => whnf
        rw [wrap_i64 (a + p1) (by omega) (by omega)]
        refine br_intro (fun h4 => ?_) (fun h4 => ?_) <;> (rw [h4]; conv => whnf)
        · have h4' := of_decide_eq_true h4
          rw [if_pos (by omega)] at g6
          refine Nx.intro ⟨(j + 1, a + p1, p2), by omega, by dsimp only; omega, by dsimp only; omega, by dsimp only; omega, by dsimp only; omega, g6⟩ (by dsimp only; omega) ?_
          refine Wk.intro [] rfl (fun p hp => by cases hp) ⟨.same rfl trivial, .same rfl trivial, .same rfl (by exact rfl), .same rfl trivial, .same rfl trivial, .same (congrArg i64 (by rw [wrap_i64 _ (by omega) (by omega)]; rfl)) trivial, trivial⟩ ⟨⟨rfl, .inl ⟨rfl, it_row _ _ _ _ _⟩⟩, trivial⟩
        · have h4' := of_decide_eq_false h4
          rw [if_neg (by omega)] at g6
          refine Nx.intro ⟨(j + 1, a + p1, d), by omega, by dsimp only; omega, by dsimp only; omega, by dsimp only; omega, by dsimp only; omega, g6⟩ (by dsimp only; omega) ?_
          refine Wk.intro [] rfl (fun p hp => by cases hp) ⟨.same rfl trivial, .same rfl trivial, .same rfl (by exact rfl), .same rfl trivial, .same rfl trivial, .same (congrArg i64 (by rw [wrap_i64 _ (by omega) (by omega)]; rfl)) trivial, trivial⟩ ⟨⟨rfl, .inl ⟨rfl, it_row _ _ _ _ _⟩⟩, trivial⟩
      · have h3' := of_decide_eq_false h3
        rw [if_neg (fun h => h3' h.2)] at g6
        rw [g6]
        exact ⟨.inl rfl, .inl rfl, trivial⟩
    · have h2' := of_decide_eq_false h2
      rw [if_neg (fun h => h2' h.1)] at g6
      rw [g6]
      exact ⟨.inl rfl, .inl rfl, trivial⟩
  · obtain rfl : j = l.length := by have := of_decide_eq_false h1; omega
    rw [List.drop_length, itNL_nil] at g6
    rw [g6]
    exact ⟨.inl rfl, .inl rfl, trivial⟩
theorem items_law : ∀ i : It, ItmOk i
  | .mk k n s l =>
    have ih : ∀ i ∈ l, ItmOk i := fun i hi => items_law i
    items_mk k n s l ih
termination_by i => SizeOf.sizeOf i
decreasing_by
  have := List.sizeOf_lt_of_mem hi
  simp only [It.mk.sizeOf_spec]
  omega
end Go.AW.Wir
