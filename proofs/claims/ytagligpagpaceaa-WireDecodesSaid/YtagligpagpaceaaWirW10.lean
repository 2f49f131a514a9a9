import Derived.Test.YtagligpagpaceaaWirW9
/- The wire: texts counted, items compared, walked. -/
set_option linter.unusedVariables false
set_option linter.unusedSimpArgs false
namespace Go.AW.Wir
open Go Go.AW Go.Proofs
set_option maxRecDepth 10000
set_option pp.maxSteps 60

theorem mnI_eq (a b : Int) : mnI a b = min a b := by unfold mnI; split <;> omega
abbrev RLW : List Nat := [2000001, 1000000 + 21]
def WiOk (i : It) : Prop := ∀ deep many : Int, inI i → 0 ≤ deep → deep ≤ 100 → 0 ≤ many → many ≤ 100000 → FCm Try.prog 21 [itT i, i64 deep, .ptr 0 0 0] (lfM many) 1 (i64 (wiN i deep many).1) (lfM (wiN i deep many).2)
theorem within_mk (k n : Int) (s : List UInt8) (l : List It) (ih : ∀ i ∈ l, WiOk i) : WiOk (.mk k n s l) := by
  intro deep many hin hd0 hd1 hm0 hm1
  rw [inI] at hin
  have hlen := hin.1.2
  rw [wiN_mk, itT_mk]
  refine FCm_of_awp (fn := Try.f21) (c := bodyC Try.f21) Try.func21 rfl (of_decide_eq_true rfl) RLW rfl ?_
  conv => whnf
  rw [wrap_i64 (many - 1) (by omega) (by omega)]
  refine br_intro (fun h1 => ?_) (fun h1 => ?_) <;> (rw [h1]; conv => whnf)
  · rw [if_pos (.inl (of_decide_eq_true h1))]
    exact ⟨[(0, 0)], ⟨rfl, rfl, rfl⟩, .inl rfl, lf_keep _ rfl⟩
  refine br_intro (fun h2 => ?_) (fun h2 => ?_) <;> (rw [h2]; conv => whnf)
  · rw [if_pos (.inr (of_decide_eq_true h2))]
    exact ⟨[(0, 0)], ⟨rfl, rfl, rfl⟩, .inl rfl, lf_keep _ rfl⟩
  have h1' := of_decide_eq_false h1
  have h2' := of_decide_eq_false h2
  rw [if_neg (fun h => h.elim h1' h2')]
  rw [mnI_eq, show (((⟨s.toArray⟩ : ByteArray).size : Nat) : Int) = (s.length : Int) from congrArg Nat.cast (List.size_toArray ..)]
  refine loop_intro (fun y : { p : Nat × Int × Int // p.1 ≤ l.length ∧ -1 ≤ p.2.1 ∧ p.2.1 ≤ many - 1 ∧ 0 ≤ p.2.2 ∧ p.2.2 ≤ 1048577 * (deep + 3) ∧ (p.2.1 < 0 → 1048576 < p.2.2) ∧ wiNL l (deep - 1) (many - 1) (min (s.length : Int) 1048576) = wiNL (l.drop p.1) (deep - 1) p.2.1 p.2.2 } =>
    ⟨[(1, i64 deep), (2, .ptr 0 0 0), (3, .ptr 1 0 0), (7, i64 y.1.2.2), (28, i64 (l.length : Nat)), (29, i64 (y.1.1 : Nat))], [(0, .own 1 [[i64 y.1.2.1]]), (1, .own 4 [[i64 k, i64 n, str s, .sl none 4 (itR l)]])], 47, 2, RLW⟩)
    (fun y => l.length - y.1.1) ⟨(0, many - 1, min (s.length : Int) 1048576), Nat.zero_le _, by dsimp only; omega, Int.le_refl _, by dsimp only; omega, by dsimp only; omega, by dsimp only; omega, rfl⟩ ?_ ?_
  · exact Wk.intro [] rfl (fun p hp => by cases hp) ⟨.same rfl trivial, .same rfl (by exact rfl), .same rfl (by exact rfl), .same rfl trivial, .same (congrArg i64 (by rw [itR_len])) trivial, .same rfl trivial, trivial⟩
      ⟨⟨rfl, .inl ⟨rfl, lf_lt _ _⟩⟩, ⟨rfl, .inl ⟨rfl, it_row _ _ _ _ _⟩⟩, trivial⟩
  rintro ⟨⟨j, a, r⟩, g1, g2, g3, g4, g5, g6, g7⟩
  dsimp only at g1 g2 g3 g4 g5 g6 g7 ⊢
  conv => whnf
  refine br_intro (fun h1 => ?_) (fun h1 => ?_) <;> (rw [h1]; conv => whnf)
  · have hj : j < l.length := by have := of_decide_eq_true h1; omega
    have hdr : l.drop j = l[j] :: l.drop (j + 1) := List.drop_eq_getElem_cons hj
    rw [hdr, wiNL_cons] at g7
    refine br_intro (fun h2 => ?_) (fun h2 => ?_) <;> (rw [h2]; conv => whnf)
    · have h2' := of_decide_eq_true h2
      rw [if_pos h2'] at g7
      have ha : 0 ≤ a := by omega
      refine ⟨by omega, nthK_intro (itR_get (List.getElem?_eq_getElem hj)) ?_⟩
      conv => whnf
      rw [wrap_i64 (deep - 1) (by omega) (by omega)]
      have hc := ih l[j] (List.getElem_mem hj) (deep - 1) a (inIs_mem hin.2 (List.getElem_mem hj)) (by omega) (by omega) ha (by omega)
      have hr := wiN_rng l[j] (deep - 1) a (by omega) ha
      generalize wiN l[j] (deep - 1) a = p at hc hr g7
      obtain ⟨p1, p2⟩ := p
      obtain ⟨r1, r2, r3, r4, r5⟩ := hr
      dsimp only at hc g7 r1 r2 r3 r4 r5
      refine ⟨[0], _, _, _, _, lfM p2, _, hc, ⟨rfl, ⟨rfl, trivial⟩, rfl, rfl, lf_in rfl, rfl, rfl, lf_out 0 _ _⟩, ?_⟩
      conv => whnf
      rw [wrap_i64 (r + p1) (by omega) (by omega)]
      refine Nx.intro ⟨(j + 1, p2, r + p1), by omega, by dsimp only; omega, by dsimp only; omega, by dsimp only; omega, by dsimp only; omega, by dsimp only; omega, g7⟩ (by dsimp only; omega) ?_
      exact Wk.intro [] rfl (fun p hp => by cases hp) ⟨.same rfl trivial, .same rfl (by exact rfl), .same rfl (by exact rfl), .same rfl trivial, .same rfl trivial, .same (congrArg i64 (by rw [wrap_i64 _ (by omega) (by omega)]; rfl)) trivial, trivial⟩
        ⟨⟨rfl, .inl ⟨rfl, lf_lt _ _⟩⟩, ⟨rfl, .inl ⟨rfl, it_row _ _ _ _ _⟩⟩, trivial⟩
    · rw [if_neg (of_decide_eq_false h2)] at g7
      refine Nx.intro ⟨(j + 1, a, r), by omega, by dsimp only; omega, by dsimp only; omega, by dsimp only; omega, by dsimp only; omega, by dsimp only; omega, g7⟩ (by dsimp only; omega) ?_
      exact Wk.intro [] rfl (fun p hp => by cases hp) ⟨.same rfl trivial, .same rfl (by exact rfl), .same rfl (by exact rfl), .same rfl trivial, .same rfl trivial, .same (congrArg i64 (by rw [wrap_i64 _ (by omega) (by omega)]; rfl)) trivial, trivial⟩
        ⟨⟨rfl, .inl ⟨rfl, lf_lt _ _⟩⟩, ⟨rfl, .inl ⟨rfl, it_row _ _ _ _ _⟩⟩, trivial⟩
  · obtain rfl : j = l.length := by have := of_decide_eq_false h1; omega
    rw [List.drop_length, wiNL_nil] at g7
    rw [g7]
    exact ⟨[(0, 0)], ⟨rfl, rfl, rfl⟩, .inl rfl, lf_keep _ rfl⟩
theorem within_law : ∀ i : It, WiOk i
  | .mk k n s l =>
    have ih : ∀ i ∈ l, WiOk i := fun i hi => within_law i
    within_mk k n s l ih
termination_by i => SizeOf.sizeOf i
decreasing_by
  have := List.sizeOf_lt_of_mem hi
  simp only [It.mk.sizeOf_spec]
  omega
theorem texts_law (i : It) (hi : inI i) : FCv Try.prog 12 [itT i] (i64 (wiN i 100 10000).1) := by
  have h := within_law i 100 10000 hi (by decide) (by decide) (by decide) (by decide)
  generalize wiN i 100 10000 = p at h ⊢
  rw [itT_row] at h ⊢
  refine FCv_of_awp (fn := Try.f12) (c := bodyC Try.f12) Try.func12 rfl (of_decide_eq_true rfl) [1000000 + 21] ?_
  conv => whnf
  refine ⟨[1], _, _, _, _, [(1, .own 1 [[i64 p.2]])], _, h, ⟨rfl, ⟨rfl, trivial⟩, rfl, rfl, lf_in rfl, rfl, rfl, lf_out 1 _ _⟩, ?_⟩
  conv => whnf
  exact .inl rfl

def SameOk (a : It) : Prop := ∀ b : It, inI a → FCv Try.prog 10 [itT a, itT b] (tb (@decide (a = b) (Classical.propDecidable _)))
theorem dt {p : Prop} (h : p) : @decide p (Classical.propDecidable _) = true := by simp [h]
theorem df {p : Prop} (h : ¬ p) : @decide p (Classical.propDecidable _) = false := by simp [h]
theorem str_ne (a b : List UInt8) : (!(ByteArray.toList ⟨a.toArray⟩ == ByteArray.toList ⟨b.toArray⟩)) = !decide (a = b) := by
  congr 1
  rw [ByteArray.toList_eq, ByteArray.toList_eq, Bool.eq_iff_iff, beq_iff_eq, decide_eq_true_eq]
theorem same_mk (k n : Int) (s : List UInt8) (l : List It) (ih : ∀ i ∈ l, SameOk i) : SameOk (.mk k n s l) := by
  intro b hin
  obtain ⟨k', n', s', l'⟩ := b
  rw [inI] at hin
  rw [itT_mk, itT_mk]
  refine FCv_of_awp (fn := Try.f10) (c := bodyC Try.f10) Try.func10 rfl (of_decide_eq_true rfl) [] ?_
  conv => whnf
  by_cases hk : k = k'
  rotate_left
  · rw [qn hk]
    conv => whnf
    exact .inl (congrArg tb (df (fun e => hk (by cases e; rfl))).symm)
  rw [qq hk]
  conv => whnf
  by_cases hn : n = n'
  rotate_left
  · rw [qn hn]
    conv => whnf
    exact .inl (congrArg tb (df (fun e => hn (by cases e; rfl))).symm)
  rw [qq hn]
  conv => whnf
  rw [str_ne]
  by_cases hs : s = s'
  rotate_left
  · rw [decide_eq_false hs]
    conv => whnf
    exact .inl (congrArg tb (df (fun e => hs (by cases e; rfl))).symm)
  rw [decide_eq_true hs]
  conv => whnf
  rw [itR_len, itR_len]
  by_cases hl : l.length = l'.length
  rotate_left
  · rw [qn (show ¬ (l.length : Int) = (l'.length : Int) by omega)]
    conv => whnf
    exact .inl (congrArg tb (df (fun e => hl (by cases e; rfl))).symm)
  rw [qq (show (l.length : Int) = (l'.length : Int) by omega)]
  conv => whnf
  refine loop_intro (fun y : { j : Nat // j ≤ l.length ∧ l.take j = l'.take j } =>
    ⟨[(2, .ptr 0 0 0), (3, .ptr 1 0 0), (5, i64 (y.1 : Nat))], [(0, .own 4 [[i64 k, i64 n, str s, .sl none 4 (itR l)]]), (1, .own 4 [[i64 k', i64 n', str s', .sl none 4 (itR l')]])], 53, 2, []⟩)
    (fun y => l.length - y.1) ⟨0, Nat.zero_le _, rfl⟩ ?_ ?_
  · exact Wk.intro [] rfl (fun p hp => by cases hp) ⟨.same rfl (by exact rfl), .same rfl (by exact rfl), .same rfl trivial, trivial⟩ ⟨⟨rfl, .inl ⟨rfl, it_row _ _ _ _ _⟩⟩, ⟨rfl, .inl ⟨rfl, it_row _ _ _ _ _⟩⟩, trivial⟩
  rintro ⟨j, g1, g2⟩
  dsimp only
  conv => whnf
  refine br_intro (fun h1 => ?_) (fun h1 => ?_) <;> (rw [h1]; conv => whnf) <;> rw [itR_len] at h1
  · have hj : j < l.length := by have := of_decide_eq_true h1; omega
    have hj' : j < l'.length := by omega
    refine ⟨by omega, nthK_intro (itR_get (List.getElem?_eq_getElem hj)) ?_⟩
    conv => whnf
    refine ⟨by omega, nthK_intro (itR_get (List.getElem?_eq_getElem hj')) ?_⟩
    conv => whnf
    have hc := ih l[j] (List.getElem_mem hj) l'[j] (inIs_mem hin.2 (List.getElem_mem hj))
    refine ⟨_, hc, ?_⟩
    conv => whnf
    by_cases he : l[j] = l'[j]
    · rw [dt he]
      conv => whnf
      refine Nx.intro ⟨j + 1, by omega, ?_⟩ (by dsimp only; omega) ?_
      · rw [List.take_add_one, List.take_add_one, g2, List.getElem?_eq_getElem hj, List.getElem?_eq_getElem hj', he]
      · exact Wk.intro [] rfl (fun p hp => by cases hp) ⟨.same rfl (by exact rfl), .same rfl (by exact rfl), .same (congrArg i64 (by rw [wrap_i64 _ (by omega) (by omega)]; rfl)) trivial, trivial⟩ ⟨⟨rfl, .inl ⟨rfl, it_row _ _ _ _ _⟩⟩, ⟨rfl, .inl ⟨rfl, it_row _ _ _ _ _⟩⟩, trivial⟩
    · rw [df he]
      conv => whnf
      refine .inl (congrArg tb (df (fun e => he ?_)).symm)
      injection e with e1 e2 e3 e4
      subst e4
      rfl
  · obtain rfl : j = l.length := by have := of_decide_eq_false h1; omega
    rw [List.take_length, hl, List.take_length] at g2
    exact .inl (congrArg tb (dt (by rw [hk, hn, hs, g2])).symm)
theorem same_law : ∀ i : It, SameOk i
  | .mk k n s l =>
    have ih : ∀ i ∈ l, SameOk i := fun i hi => same_law i
    same_mk k n s l ih
termination_by i => SizeOf.sizeOf i
decreasing_by
  have := List.sizeOf_lt_of_mem hi
  simp only [It.mk.sizeOf_spec]
  omega
end Go.AW.Wir
