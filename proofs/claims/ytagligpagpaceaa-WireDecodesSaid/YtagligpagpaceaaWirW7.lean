import Derived.Test.YtagligpagpaceaaWirW6
/- The wire: what an item becomes: the endings that stop. -/
set_option linter.unusedVariables false
set_option linter.unusedSimpArgs false
namespace Go.AW.Wir
open Go Go.AW Go.Proofs
set_option maxRecDepth 10000
set_option pp.maxSteps 60

theorem of_no (k n : Int) (s : List UInt8) (l : List It) (ih : ∀ i ∈ l, OfOk i ∧ OfNo i) : OfNo (.mk k n s l) := by
  intro deep left hd1 hd hl0 hl1 hin ho
  rw [okc_mk] at ho
  rw [inI] at hin
  refine FCx_of_awp (fn := Try.f24) (c := bodyC Try.f24) Try.func24 rfl (of_decide_eq_true rfl) RLO rfl ?_
  rw [show itT (.mk k n s l) = .agg [i64 k, i64 n, str s, .sl none 4 (itR l)] from congrArg T.agg (itC_eq _)]
  conv => whnf
  rw [wrap_i64 (left - 1) (by omega) (by omega)]
  by_cases ho1 : left - 1 < 0
  · rw [decide_eq_true ho1]
    conv => whnf
    all_goals rfl
  rw [decide_eq_false ho1]
  conv => whnf
  by_cases ho2 : deep > 12
  · rw [decide_eq_true ho2]
    conv => whnf
    all_goals rfl
  rw [decide_eq_false ho2]
  conv => whnf
  have hsz : (⟨s.toArray⟩ : ByteArray).size = s.length := List.size_toArray ..
  by_cases ho3 : k = 2 ∧ 4096 < s.length
  · rw [bq ho3.1]
    conv => whnf
    rw [show decide (((ByteArray.size ⟨s.toArray⟩ : Nat) : Int) > 4096) = true from decide_eq_true (by rw [hsz]; omega)]
    conv => whnf
    all_goals rfl
  have ho4 : ¬ okl l (deep + 1) (left - 1) := fun h => ho ⟨by omega, by omega, ho3, h⟩
  have hne : l ≠ [] := fun e => by
    refine ho4 ?_
    rw [e]
    exact ⟨by rw [nL]; omega, .inl rfl, by rw [bigL]⟩
  by_cases hk2 : k = 2
  · rw [bq hk2]
    conv => whnf
    rw [show decide (((ByteArray.size ⟨s.toArray⟩ : Nat) : Int) > 4096) = false from decide_eq_false (by
      have e : (⟨s.toArray⟩ : ByteArray).size = s.length := List.size_toArray ..
      rw [e]; omega)]
    conv => whnf
    rw [bn (show ¬ k = 1 by omega)]
    conv => whnf
    rw [bq hk2]
    conv => whnf
    by_cases hn : n = 0
    · rw [bq hn]
      conv => whnf
      rw [bl hne]
      conv => whnf
      refine loop_intro (fun y : { j : Nat // j ≤ l.length ∧ 0 ≤ left - 1 - (nL (l.take j) : Int) ∧ ¬ okl (l.drop j) (deep + 1) (left - 1 - (nL (l.take j) : Int)) } =>
        ⟨[(1, i64 deep), (2, .ptr 0 0 0), (3, .ptr 1 0 0), (7, .sl (some 2) 1 (vR (vL (l.take y.1)))), (74, .sl none 4 (itR l)), (75, i64 (l.length : Nat)), (76, i64 (y.1 : Nat))],
          [(0, .own 1 [[i64 (left - 1 - (nL (l.take y.1) : Int))]]), (1, .own 4 [[i64 k, i64 n, str s, .sl none 4 (itR l)]]), (2, .tok 1 y.1)], 106, 3, RLO⟩) (fun y => l.length - y.1) ⟨0, Nat.zero_le _, by rw [List.take_zero, nL]; omega, by rw [List.take_zero, nL, List.drop_zero, show left - 1 - ((0 : Nat) : Int) = left - 1 by omega]; exact ho4⟩ ?_ ?_
      · refine Wk.intro [] rfl (fun p hp => by cases hp) ⟨.same rfl trivial, .same rfl (by exact rfl), .same rfl (by exact rfl), .same ?_ (by exact rfl), .same rfl trivial, .same (congrArg i64 (by rw [itR_len])) trivial, .same rfl trivial, trivial⟩
          ⟨⟨rfl, .inl ⟨?_, lf_lt _ _⟩⟩, ⟨rfl, .inl ⟨rfl, it_row _ _ _ _ _⟩⟩, ⟨rfl, .inl ⟨rfl, trivial⟩⟩, trivial⟩
        · show T.sl (some 2) 1 [] = _
          rw [List.take_zero, vL, vR]
        · show some (Blk.own 1 [[i64 (left - 1)]]) = _
          rw [List.take_zero, nL, show left - 1 - ((0 : Nat) : Int) = left - 1 by omega]
      rintro ⟨j, g1, g2, g3⟩
      dsimp only
      conv => whnf
      refine br_intro (fun h1 => ?_) (fun h1 => ?_) <;> (rw [h1]; conv => whnf)
      · have hj : j < l.length := by have := of_decide_eq_true h1; omega
        have hmem : l[j] ∈ l := List.getElem_mem hj
        have hjn := tk_nL l g1
        have hlen := vLt_len g1
        have htn := take_nL hj
        have htv := take_vR hj
        refine ⟨by omega, nthK_intro (itR_get (List.getElem?_eq_getElem hj)) ?_⟩
        conv => whnf
        rw [wrap_i64 (deep + 1) (by omega) (by omega)]
        have hdr : l.drop j = l[j] :: l.drop (j + 1) := List.drop_eq_getElem_cons hj
        rw [hdr] at g3
        rw [okl_cons] at g3
        have hii := inIs_mem hin.2 hmem
        generalize hlj : l[j] = i at g3 hmem htn htv hii ⊢
        rcases Classical.em (okc i (deep + 1) (left - 1 - (nL (l.take j) : Int))) with g4 | g4
        rotate_left
        · have hc := (ih i hmem).2 (deep + 1) (left - 1 - (nL (l.take j) : Int)) (by omega) (by omega) g2 (by omega) hii g4
          refine .inr ⟨[0], _, _, _, hc, ⟨rfl, ⟨rfl, trivial⟩, rfl, rfl, lf_in rfl⟩, ?_⟩
          conv => whnf
          all_goals rfl
        · replace g3 := fun h => g3 ⟨g4, h⟩
          have hc := (ih i hmem).1 (deep + 1) (left - 1 - (nL (l.take j) : Int)) (by omega) (by omega) g2 (by omega) hii g4
          have hni : ((nL (l.take j) : Nat) : Int) + (nI i : Int) = ((nL (l.take (j + 1)) : Nat) : Int) := by omega
          have hnn : left - 1 - (nL (l.take j) : Int) - (nI i : Int) = left - 1 - (nL (l.take (j + 1)) : Int) := by omega
          have hg4 := g4.1
          rw [hnn] at hc g3
          rcases vT_form (vI i) with ⟨ea, eb, e⟩ | ⟨ea, eb, e⟩ <;> rw [e] at hc htv <;>
            refine .inl ⟨[0], _, _, _, _, lfM (left - 1 - (nL (l.take (j + 1)) : Int)), _, hc, ⟨rfl, ⟨rfl, trivial⟩, rfl, rfl, lf_in rfl, rfl, rfl, lf_out 0 _ _⟩, ?_⟩ <;> (conv => whnf) <;>
            (have nb : (Try.prog.types[20]).bytes = 16 := rfl) <;>
            (refine ⟨hlen, by rw [hlen, nb]; show (j + 1) * 16 ≤ _; omega, by rw [hlen]; show j + 1 ≤ _; omega, ?_⟩) <;>
            (conv => whnf) <;>
            (refine Nx.intro ⟨j + 1, by omega, by omega, g3⟩ (by dsimp only; omega) ?_) <;>
            (refine Wk.intro [] rfl (fun p hp => by cases hp) ⟨.same rfl trivial, .same rfl (by exact rfl), .same rfl (by exact rfl), .same (congrArg (T.sl (some 2) 1) htv.symm) (by exact rfl), .same rfl trivial, .same rfl trivial, .same (congrArg i64 ?_) trivial, trivial⟩
              ⟨⟨rfl, .inl ⟨rfl, lf_lt _ _⟩⟩, ⟨rfl, .inl ⟨rfl, it_row _ _ _ _ _⟩⟩, ⟨rfl, .inl ⟨?_, trivial⟩⟩, trivial⟩) <;>
            first
            | (rw [wrap_i64 _ (by omega) (by omega)]; rfl)
            | (show some (Blk.tok 1 ((vR (vL (l.take j))).length + 1)) = _
               rw [hlen])
      · obtain rfl : j = l.length := by have := of_decide_eq_false h1; omega
        refine absurd ?_ g3
        rw [List.drop_length, List.take_length]
        rw [List.take_length] at g2
        exact ⟨by rw [nL]; exact g2, .inl rfl, by rw [bigL]⟩
    · rw [bn hn]
      conv => whnf
      refine loop_intro (fun y : { j : Nat // j ≤ l.length ∧ 0 ≤ left - 1 - (nL (l.take j) : Int) ∧ ¬ okl (l.drop j) (deep + 1) (left - 1 - (nL (l.take j) : Int)) } =>
        ⟨[(1, i64 deep), (2, .ptr 0 0 0), (3, .ptr 1 0 0), (7, .sl (some 2) 1 (vR (vL (l.take y.1)))), (74, .sl none 4 (itR l)), (75, i64 (l.length : Nat)), (76, i64 (y.1 : Nat))],
          [(0, .own 1 [[i64 (left - 1 - (nL (l.take y.1) : Int))]]), (1, .own 4 [[i64 k, i64 n, str s, .sl none 4 (itR l)]]), (2, .tok 1 y.1)], 106, 3, RLO⟩) (fun y => l.length - y.1) ⟨0, Nat.zero_le _, by rw [List.take_zero, nL]; omega, by rw [List.take_zero, nL, List.drop_zero, show left - 1 - ((0 : Nat) : Int) = left - 1 by omega]; exact ho4⟩ ?_ ?_
      · refine Wk.intro [] rfl (fun p hp => by cases hp) ⟨.same rfl trivial, .same rfl (by exact rfl), .same rfl (by exact rfl), .same ?_ (by exact rfl), .same rfl trivial, .same (congrArg i64 (by rw [itR_len])) trivial, .same rfl trivial, trivial⟩
          ⟨⟨rfl, .inl ⟨?_, lf_lt _ _⟩⟩, ⟨rfl, .inl ⟨rfl, it_row _ _ _ _ _⟩⟩, ⟨rfl, .inl ⟨rfl, trivial⟩⟩, trivial⟩
        · show T.sl (some 2) 1 [] = _
          rw [List.take_zero, vL, vR]
        · show some (Blk.own 1 [[i64 (left - 1)]]) = _
          rw [List.take_zero, nL, show left - 1 - ((0 : Nat) : Int) = left - 1 by omega]
      rintro ⟨j, g1, g2, g3⟩
      dsimp only
      conv => whnf
      refine br_intro (fun h1 => ?_) (fun h1 => ?_) <;> (rw [h1]; conv => whnf)
      · have hj : j < l.length := by have := of_decide_eq_true h1; omega
        have hmem : l[j] ∈ l := List.getElem_mem hj
        have hjn := tk_nL l g1
        have hlen := vLt_len g1
        have htn := take_nL hj
        have htv := take_vR hj
        refine ⟨by omega, nthK_intro (itR_get (List.getElem?_eq_getElem hj)) ?_⟩
        conv => whnf
        rw [wrap_i64 (deep + 1) (by omega) (by omega)]
        have hdr : l.drop j = l[j] :: l.drop (j + 1) := List.drop_eq_getElem_cons hj
        rw [hdr] at g3
        rw [okl_cons] at g3
        have hii := inIs_mem hin.2 hmem
        generalize hlj : l[j] = i at g3 hmem htn htv hii ⊢
        rcases Classical.em (okc i (deep + 1) (left - 1 - (nL (l.take j) : Int))) with g4 | g4
        rotate_left
        · have hc := (ih i hmem).2 (deep + 1) (left - 1 - (nL (l.take j) : Int)) (by omega) (by omega) g2 (by omega) hii g4
          refine .inr ⟨[0], _, _, _, hc, ⟨rfl, ⟨rfl, trivial⟩, rfl, rfl, lf_in rfl⟩, ?_⟩
          conv => whnf
          all_goals rfl
        · replace g3 := fun h => g3 ⟨g4, h⟩
          have hc := (ih i hmem).1 (deep + 1) (left - 1 - (nL (l.take j) : Int)) (by omega) (by omega) g2 (by omega) hii g4
          have hni : ((nL (l.take j) : Nat) : Int) + (nI i : Int) = ((nL (l.take (j + 1)) : Nat) : Int) := by omega
          have hnn : left - 1 - (nL (l.take j) : Int) - (nI i : Int) = left - 1 - (nL (l.take (j + 1)) : Int) := by omega
          have hg4 := g4.1
          rw [hnn] at hc g3
          rcases vT_form (vI i) with ⟨ea, eb, e⟩ | ⟨ea, eb, e⟩ <;> rw [e] at hc htv <;>
            refine .inl ⟨[0], _, _, _, _, lfM (left - 1 - (nL (l.take (j + 1)) : Int)), _, hc, ⟨rfl, ⟨rfl, trivial⟩, rfl, rfl, lf_in rfl, rfl, rfl, lf_out 0 _ _⟩, ?_⟩ <;> (conv => whnf) <;>
            (have nb : (Try.prog.types[20]).bytes = 16 := rfl) <;>
            (refine ⟨hlen, by rw [hlen, nb]; show (j + 1) * 16 ≤ _; omega, by rw [hlen]; show j + 1 ≤ _; omega, ?_⟩) <;>
            (conv => whnf) <;>
            (refine Nx.intro ⟨j + 1, by omega, by omega, g3⟩ (by dsimp only; omega) ?_) <;>
            (refine Wk.intro [] rfl (fun p hp => by cases hp) ⟨.same rfl trivial, .same rfl (by exact rfl), .same rfl (by exact rfl), .same (congrArg (T.sl (some 2) 1) htv.symm) (by exact rfl), .same rfl trivial, .same rfl trivial, .same (congrArg i64 ?_) trivial, trivial⟩
              ⟨⟨rfl, .inl ⟨rfl, lf_lt _ _⟩⟩, ⟨rfl, .inl ⟨rfl, it_row _ _ _ _ _⟩⟩, ⟨rfl, .inl ⟨?_, trivial⟩⟩, trivial⟩) <;>
            first
            | (rw [wrap_i64 _ (by omega) (by omega)]; rfl)
            | (show some (Blk.tok 1 ((vR (vL (l.take j))).length + 1)) = _
               rw [hlen])
      · obtain rfl : j = l.length := by have := of_decide_eq_false h1; omega
        refine absurd ?_ g3
        rw [List.drop_length, List.take_length]
        rw [List.take_length] at g2
        exact ⟨by rw [nL]; exact g2, .inl rfl, by rw [bigL]⟩
  · rw [bn hk2]
    conv => whnf
    by_cases hk1 : k = 1
    · rw [bq hk1]
      conv => whnf
      by_cases hs : s = []
      · rw [show (ByteArray.toList ⟨s.toArray⟩ == ByteArray.toList ⟨#[]⟩) = true by rw [empty_eq, hs]; rfl]
        conv => whnf
        rw [bl hne]
        conv => whnf
        rw [bn hk2]
        conv => whnf
        refine loop_intro (fun y : { j : Nat // j ≤ l.length ∧ 0 ≤ left - 1 - (nL (l.take j) : Int) ∧ ¬ okl (l.drop j) (deep + 1) (left - 1 - (nL (l.take j) : Int)) } =>
          ⟨[(1, i64 deep), (2, .ptr 0 0 0), (3, .ptr 1 0 0), (7, .sl (some 2) 1 (vR (vL (l.take y.1)))), (74, .sl none 4 (itR l)), (75, i64 (l.length : Nat)), (76, i64 (y.1 : Nat))],
            [(0, .own 1 [[i64 (left - 1 - (nL (l.take y.1) : Int))]]), (1, .own 4 [[i64 k, i64 n, str s, .sl none 4 (itR l)]]), (2, .tok 1 y.1)], 106, 3, RLO⟩) (fun y => l.length - y.1) ⟨0, Nat.zero_le _, by rw [List.take_zero, nL]; omega, by rw [List.take_zero, nL, List.drop_zero, show left - 1 - ((0 : Nat) : Int) = left - 1 by omega]; exact ho4⟩ ?_ ?_
        · refine Wk.intro [] rfl (fun p hp => by cases hp) ⟨.same rfl trivial, .same rfl (by exact rfl), .same rfl (by exact rfl), .same ?_ (by exact rfl), .same rfl trivial, .same (congrArg i64 (by rw [itR_len])) trivial, .same rfl trivial, trivial⟩
            ⟨⟨rfl, .inl ⟨?_, lf_lt _ _⟩⟩, ⟨rfl, .inl ⟨rfl, it_row _ _ _ _ _⟩⟩, ⟨rfl, .inl ⟨rfl, trivial⟩⟩, trivial⟩
          · show T.sl (some 2) 1 [] = _
            rw [List.take_zero, vL, vR]
          · show some (Blk.own 1 [[i64 (left - 1)]]) = _
            rw [List.take_zero, nL, show left - 1 - ((0 : Nat) : Int) = left - 1 by omega]
        rintro ⟨j, g1, g2, g3⟩
        dsimp only
        conv => whnf
        refine br_intro (fun h1 => ?_) (fun h1 => ?_) <;> (rw [h1]; conv => whnf)
        · have hj : j < l.length := by have := of_decide_eq_true h1; omega
          have hmem : l[j] ∈ l := List.getElem_mem hj
          have hjn := tk_nL l g1
          have hlen := vLt_len g1
          have htn := take_nL hj
          have htv := take_vR hj
          refine ⟨by omega, nthK_intro (itR_get (List.getElem?_eq_getElem hj)) ?_⟩
          conv => whnf
          rw [wrap_i64 (deep + 1) (by omega) (by omega)]
          have hdr : l.drop j = l[j] :: l.drop (j + 1) := List.drop_eq_getElem_cons hj
          rw [hdr] at g3
          rw [okl_cons] at g3
          have hii := inIs_mem hin.2 hmem
          generalize hlj : l[j] = i at g3 hmem htn htv hii ⊢
          rcases Classical.em (okc i (deep + 1) (left - 1 - (nL (l.take j) : Int))) with g4 | g4
          rotate_left
          · have hc := (ih i hmem).2 (deep + 1) (left - 1 - (nL (l.take j) : Int)) (by omega) (by omega) g2 (by omega) hii g4
            refine .inr ⟨[0], _, _, _, hc, ⟨rfl, ⟨rfl, trivial⟩, rfl, rfl, lf_in rfl⟩, ?_⟩
            conv => whnf
            all_goals rfl
          · replace g3 := fun h => g3 ⟨g4, h⟩
            have hc := (ih i hmem).1 (deep + 1) (left - 1 - (nL (l.take j) : Int)) (by omega) (by omega) g2 (by omega) hii g4
            have hni : ((nL (l.take j) : Nat) : Int) + (nI i : Int) = ((nL (l.take (j + 1)) : Nat) : Int) := by omega
            have hnn : left - 1 - (nL (l.take j) : Int) - (nI i : Int) = left - 1 - (nL (l.take (j + 1)) : Int) := by omega
            have hg4 := g4.1
            rw [hnn] at hc g3
            rcases vT_form (vI i) with ⟨ea, eb, e⟩ | ⟨ea, eb, e⟩ <;> rw [e] at hc htv <;>
              refine .inl ⟨[0], _, _, _, _, lfM (left - 1 - (nL (l.take (j + 1)) : Int)), _, hc, ⟨rfl, ⟨rfl, trivial⟩, rfl, rfl, lf_in rfl, rfl, rfl, lf_out 0 _ _⟩, ?_⟩ <;> (conv => whnf) <;>
              (have nb : (Try.prog.types[20]).bytes = 16 := rfl) <;>
              (refine ⟨hlen, by rw [hlen, nb]; show (j + 1) * 16 ≤ _; omega, by rw [hlen]; show j + 1 ≤ _; omega, ?_⟩) <;>
              (conv => whnf) <;>
              (refine Nx.intro ⟨j + 1, by omega, by omega, g3⟩ (by dsimp only; omega) ?_) <;>
              (refine Wk.intro [] rfl (fun p hp => by cases hp) ⟨.same rfl trivial, .same rfl (by exact rfl), .same rfl (by exact rfl), .same (congrArg (T.sl (some 2) 1) htv.symm) (by exact rfl), .same rfl trivial, .same rfl trivial, .same (congrArg i64 ?_) trivial, trivial⟩
                ⟨⟨rfl, .inl ⟨rfl, lf_lt _ _⟩⟩, ⟨rfl, .inl ⟨rfl, it_row _ _ _ _ _⟩⟩, ⟨rfl, .inl ⟨?_, trivial⟩⟩, trivial⟩) <;>
              first
              | (rw [wrap_i64 _ (by omega) (by omega)]; rfl)
              | (show some (Blk.tok 1 ((vR (vL (l.take j))).length + 1)) = _
                 rw [hlen])
        · obtain rfl : j = l.length := by have := of_decide_eq_false h1; omega
          refine absurd ?_ g3
          rw [List.drop_length, List.take_length]
          rw [List.take_length] at g2
          exact ⟨by rw [nL]; exact g2, .inl rfl, by rw [bigL]⟩
      · rw [be hs]
        conv => whnf
        rw [bn hk2]
        conv => whnf
        refine loop_intro (fun y : { j : Nat // j ≤ l.length ∧ 0 ≤ left - 1 - (nL (l.take j) : Int) ∧ ¬ okl (l.drop j) (deep + 1) (left - 1 - (nL (l.take j) : Int)) } =>
          ⟨[(1, i64 deep), (2, .ptr 0 0 0), (3, .ptr 1 0 0), (7, .sl (some 2) 1 (vR (vL (l.take y.1)))), (74, .sl none 4 (itR l)), (75, i64 (l.length : Nat)), (76, i64 (y.1 : Nat))],
            [(0, .own 1 [[i64 (left - 1 - (nL (l.take y.1) : Int))]]), (1, .own 4 [[i64 k, i64 n, str s, .sl none 4 (itR l)]]), (2, .tok 1 y.1)], 106, 3, RLO⟩) (fun y => l.length - y.1) ⟨0, Nat.zero_le _, by rw [List.take_zero, nL]; omega, by rw [List.take_zero, nL, List.drop_zero, show left - 1 - ((0 : Nat) : Int) = left - 1 by omega]; exact ho4⟩ ?_ ?_
        · refine Wk.intro [] rfl (fun p hp => by cases hp) ⟨.same rfl trivial, .same rfl (by exact rfl), .same rfl (by exact rfl), .same ?_ (by exact rfl), .same rfl trivial, .same (congrArg i64 (by rw [itR_len])) trivial, .same rfl trivial, trivial⟩
            ⟨⟨rfl, .inl ⟨?_, lf_lt _ _⟩⟩, ⟨rfl, .inl ⟨rfl, it_row _ _ _ _ _⟩⟩, ⟨rfl, .inl ⟨rfl, trivial⟩⟩, trivial⟩
          · show T.sl (some 2) 1 [] = _
            rw [List.take_zero, vL, vR]
          · show some (Blk.own 1 [[i64 (left - 1)]]) = _
            rw [List.take_zero, nL, show left - 1 - ((0 : Nat) : Int) = left - 1 by omega]
        rintro ⟨j, g1, g2, g3⟩
        dsimp only
        conv => whnf
        refine br_intro (fun h1 => ?_) (fun h1 => ?_) <;> (rw [h1]; conv => whnf)
        · have hj : j < l.length := by have := of_decide_eq_true h1; omega
          have hmem : l[j] ∈ l := List.getElem_mem hj
          have hjn := tk_nL l g1
          have hlen := vLt_len g1
          have htn := take_nL hj
          have htv := take_vR hj
          refine ⟨by omega, nthK_intro (itR_get (List.getElem?_eq_getElem hj)) ?_⟩
          conv => whnf
          rw [wrap_i64 (deep + 1) (by omega) (by omega)]
          have hdr : l.drop j = l[j] :: l.drop (j + 1) := List.drop_eq_getElem_cons hj
          rw [hdr] at g3
          rw [okl_cons] at g3
          have hii := inIs_mem hin.2 hmem
          generalize hlj : l[j] = i at g3 hmem htn htv hii ⊢
          rcases Classical.em (okc i (deep + 1) (left - 1 - (nL (l.take j) : Int))) with g4 | g4
          rotate_left
          · have hc := (ih i hmem).2 (deep + 1) (left - 1 - (nL (l.take j) : Int)) (by omega) (by omega) g2 (by omega) hii g4
            refine .inr ⟨[0], _, _, _, hc, ⟨rfl, ⟨rfl, trivial⟩, rfl, rfl, lf_in rfl⟩, ?_⟩
            conv => whnf
            all_goals rfl
          · replace g3 := fun h => g3 ⟨g4, h⟩
            have hc := (ih i hmem).1 (deep + 1) (left - 1 - (nL (l.take j) : Int)) (by omega) (by omega) g2 (by omega) hii g4
            have hni : ((nL (l.take j) : Nat) : Int) + (nI i : Int) = ((nL (l.take (j + 1)) : Nat) : Int) := by omega
            have hnn : left - 1 - (nL (l.take j) : Int) - (nI i : Int) = left - 1 - (nL (l.take (j + 1)) : Int) := by omega
            have hg4 := g4.1
            rw [hnn] at hc g3
            rcases vT_form (vI i) with ⟨ea, eb, e⟩ | ⟨ea, eb, e⟩ <;> rw [e] at hc htv <;>
              refine .inl ⟨[0], _, _, _, _, lfM (left - 1 - (nL (l.take (j + 1)) : Int)), _, hc, ⟨rfl, ⟨rfl, trivial⟩, rfl, rfl, lf_in rfl, rfl, rfl, lf_out 0 _ _⟩, ?_⟩ <;> (conv => whnf) <;>
              (have nb : (Try.prog.types[20]).bytes = 16 := rfl) <;>
              (refine ⟨hlen, by rw [hlen, nb]; show (j + 1) * 16 ≤ _; omega, by rw [hlen]; show j + 1 ≤ _; omega, ?_⟩) <;>
              (conv => whnf) <;>
              (refine Nx.intro ⟨j + 1, by omega, by omega, g3⟩ (by dsimp only; omega) ?_) <;>
              (refine Wk.intro [] rfl (fun p hp => by cases hp) ⟨.same rfl trivial, .same rfl (by exact rfl), .same rfl (by exact rfl), .same (congrArg (T.sl (some 2) 1) htv.symm) (by exact rfl), .same rfl trivial, .same rfl trivial, .same (congrArg i64 ?_) trivial, trivial⟩
                ⟨⟨rfl, .inl ⟨rfl, lf_lt _ _⟩⟩, ⟨rfl, .inl ⟨rfl, it_row _ _ _ _ _⟩⟩, ⟨rfl, .inl ⟨?_, trivial⟩⟩, trivial⟩) <;>
              first
              | (rw [wrap_i64 _ (by omega) (by omega)]; rfl)
              | (show some (Blk.tok 1 ((vR (vL (l.take j))).length + 1)) = _
                 rw [hlen])
        · obtain rfl : j = l.length := by have := of_decide_eq_false h1; omega
          refine absurd ?_ g3
          rw [List.drop_length, List.take_length]
          rw [List.take_length] at g2
          exact ⟨by rw [nL]; exact g2, .inl rfl, by rw [bigL]⟩
    · rw [bn hk1]
      conv => whnf
      rw [bn hk2]
      conv => whnf
      refine loop_intro (fun y : { j : Nat // j ≤ l.length ∧ 0 ≤ left - 1 - (nL (l.take j) : Int) ∧ ¬ okl (l.drop j) (deep + 1) (left - 1 - (nL (l.take j) : Int)) } =>
        ⟨[(1, i64 deep), (2, .ptr 0 0 0), (3, .ptr 1 0 0), (7, .sl (some 2) 1 (vR (vL (l.take y.1)))), (74, .sl none 4 (itR l)), (75, i64 (l.length : Nat)), (76, i64 (y.1 : Nat))],
          [(0, .own 1 [[i64 (left - 1 - (nL (l.take y.1) : Int))]]), (1, .own 4 [[i64 k, i64 n, str s, .sl none 4 (itR l)]]), (2, .tok 1 y.1)], 106, 3, RLO⟩) (fun y => l.length - y.1) ⟨0, Nat.zero_le _, by rw [List.take_zero, nL]; omega, by rw [List.take_zero, nL, List.drop_zero, show left - 1 - ((0 : Nat) : Int) = left - 1 by omega]; exact ho4⟩ ?_ ?_
      · refine Wk.intro [] rfl (fun p hp => by cases hp) ⟨.same rfl trivial, .same rfl (by exact rfl), .same rfl (by exact rfl), .same ?_ (by exact rfl), .same rfl trivial, .same (congrArg i64 (by rw [itR_len])) trivial, .same rfl trivial, trivial⟩
          ⟨⟨rfl, .inl ⟨?_, lf_lt _ _⟩⟩, ⟨rfl, .inl ⟨rfl, it_row _ _ _ _ _⟩⟩, ⟨rfl, .inl ⟨rfl, trivial⟩⟩, trivial⟩
        · show T.sl (some 2) 1 [] = _
          rw [List.take_zero, vL, vR]
        · show some (Blk.own 1 [[i64 (left - 1)]]) = _
          rw [List.take_zero, nL, show left - 1 - ((0 : Nat) : Int) = left - 1 by omega]
      rintro ⟨j, g1, g2, g3⟩
      dsimp only
      conv => whnf
      refine br_intro (fun h1 => ?_) (fun h1 => ?_) <;> (rw [h1]; conv => whnf)
      · have hj : j < l.length := by have := of_decide_eq_true h1; omega
        have hmem : l[j] ∈ l := List.getElem_mem hj
        have hjn := tk_nL l g1
        have hlen := vLt_len g1
        have htn := take_nL hj
        have htv := take_vR hj
        refine ⟨by omega, nthK_intro (itR_get (List.getElem?_eq_getElem hj)) ?_⟩
        conv => whnf
        rw [wrap_i64 (deep + 1) (by omega) (by omega)]
        have hdr : l.drop j = l[j] :: l.drop (j + 1) := List.drop_eq_getElem_cons hj
        rw [hdr] at g3
        rw [okl_cons] at g3
        have hii := inIs_mem hin.2 hmem
        generalize hlj : l[j] = i at g3 hmem htn htv hii ⊢
        rcases Classical.em (okc i (deep + 1) (left - 1 - (nL (l.take j) : Int))) with g4 | g4
        rotate_left
        · have hc := (ih i hmem).2 (deep + 1) (left - 1 - (nL (l.take j) : Int)) (by omega) (by omega) g2 (by omega) hii g4
          refine .inr ⟨[0], _, _, _, hc, ⟨rfl, ⟨rfl, trivial⟩, rfl, rfl, lf_in rfl⟩, ?_⟩
          conv => whnf
          all_goals rfl
        · replace g3 := fun h => g3 ⟨g4, h⟩
          have hc := (ih i hmem).1 (deep + 1) (left - 1 - (nL (l.take j) : Int)) (by omega) (by omega) g2 (by omega) hii g4
          have hni : ((nL (l.take j) : Nat) : Int) + (nI i : Int) = ((nL (l.take (j + 1)) : Nat) : Int) := by omega
          have hnn : left - 1 - (nL (l.take j) : Int) - (nI i : Int) = left - 1 - (nL (l.take (j + 1)) : Int) := by omega
          have hg4 := g4.1
          rw [hnn] at hc g3
          rcases vT_form (vI i) with ⟨ea, eb, e⟩ | ⟨ea, eb, e⟩ <;> rw [e] at hc htv <;>
            refine .inl ⟨[0], _, _, _, _, lfM (left - 1 - (nL (l.take (j + 1)) : Int)), _, hc, ⟨rfl, ⟨rfl, trivial⟩, rfl, rfl, lf_in rfl, rfl, rfl, lf_out 0 _ _⟩, ?_⟩ <;> (conv => whnf) <;>
            (have nb : (Try.prog.types[20]).bytes = 16 := rfl) <;>
            (refine ⟨hlen, by rw [hlen, nb]; show (j + 1) * 16 ≤ _; omega, by rw [hlen]; show j + 1 ≤ _; omega, ?_⟩) <;>
            (conv => whnf) <;>
            (refine Nx.intro ⟨j + 1, by omega, by omega, g3⟩ (by dsimp only; omega) ?_) <;>
            (refine Wk.intro [] rfl (fun p hp => by cases hp) ⟨.same rfl trivial, .same rfl (by exact rfl), .same rfl (by exact rfl), .same (congrArg (T.sl (some 2) 1) htv.symm) (by exact rfl), .same rfl trivial, .same rfl trivial, .same (congrArg i64 ?_) trivial, trivial⟩
              ⟨⟨rfl, .inl ⟨rfl, lf_lt _ _⟩⟩, ⟨rfl, .inl ⟨rfl, it_row _ _ _ _ _⟩⟩, ⟨rfl, .inl ⟨?_, trivial⟩⟩, trivial⟩) <;>
            first
            | (rw [wrap_i64 _ (by omega) (by omega)]; rfl)
            | (show some (Blk.tok 1 ((vR (vL (l.take j))).length + 1)) = _
               rw [hlen])
      · obtain rfl : j = l.length := by have := of_decide_eq_false h1; omega
        refine absurd ?_ g3
        rw [List.drop_length, List.take_length]
        rw [List.take_length] at g2
        exact ⟨by rw [nL]; exact g2, .inl rfl, by rw [bigL]⟩
theorem of_law : ∀ i : It, OfOk i ∧ OfNo i
  | .mk k n s l =>
    have ih : ∀ i ∈ l, OfOk i ∧ OfNo i := fun i hi => of_law i
    ⟨by
      by_cases hA : k = 1 ∧ s = [] ∧ l = []
      · exact of_num k n s l hA
      by_cases hB : k = 2 ∧ n = 0 ∧ l = []
      · obtain ⟨rfl, rfl, rfl⟩ := hB
        exact of_txt s
      by_cases hC : k ≠ 3 ∨ n ≠ 0 ∨ s ≠ []
      · exact of_bad k n s l ih hA hB hC
      · exact of_lst k n s l ih hA hB ⟨Classical.byContradiction fun h => hC (.inl h), Classical.byContradiction fun h => hC (.inr (.inl h)), Classical.byContradiction fun h => hC (.inr (.inr h))⟩,
     of_no k n s l ih⟩
termination_by i => SizeOf.sizeOf i
decreasing_by
  have := List.sizeOf_lt_of_mem hi
  simp only [It.mk.sizeOf_spec]
  omega
end Go.AW.Wir
