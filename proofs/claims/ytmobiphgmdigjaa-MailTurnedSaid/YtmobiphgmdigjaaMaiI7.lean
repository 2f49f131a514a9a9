import Derived.Test.YtmobiphgmdigjaaMaiI4
import Derived.Test.YtmobiphgmdigjaaWirP1
/- The wire: what an item becomes: the endings that stop. -/
set_option linter.unusedVariables false
set_option linter.unusedSimpArgs false
namespace Go.AW.Wir
open Go Go.AW Go.Proofs
set_option maxRecDepth 10000
set_option pp.maxSteps 60

theorem of_no (k n : Int) (s : List UInt8) (l : List It) (ih : ∀ i ∈ l, OfOk i ∧ OfNo i) : OfNo (.mk k n s l) := by
  intro deep left hd1 hd hl0 hl1 hin ho
  rw [okc_mk] at ho
  rw [inI] at hin
  refine FCx_of_awp (fn := Try.f43) (c := bodyC Try.f43) Try.func43 rfl (of_decide_eq_true rfl) RLO rfl ?_
  rw [show itT (.mk k n s l) = .agg [i64 k, i64 n, str s, .sl none 4 (itR l)] from congrArg T.agg (itC_eq _)]
  conv => whnf
  rw [wrap_i64 (left - 1) (by omega) (by omega)]
  by_cases ho1 : left - 1 < 0
  · rw [decide_eq_true ho1]
    conv => whnf
    all_goals rfl
  rw [decide_eq_false ho1]
  conv => whnf
  by_cases ho2 : deep > 12
  · rw [decide_eq_true ho2]
    conv => whnf
    all_goals rfl
  rw [decide_eq_false ho2]
  conv => whnf
  have hsz : (⟨s.toArray⟩ : ByteArray).size = s.length := List.size_toArray ..
  by_cases ho3 : k = 2 ∧ 4096 < s.length
  · rw [bq ho3.1]
    conv => whnf
    rw [show decide (((ByteArray.size ⟨s.toArray⟩ : Nat) : Int) > 4096) = true from decide_eq_true (by rw [hsz]; omega)]
    conv => whnf
    all_goals rfl
  have ho4 : ¬ okl l (deep + 1) (left - 1) := fun h => ho ⟨by omega, by omega, ho3, h⟩
  have hne : l ≠ [] := fun e => by
    refine ho4 ?_
    rw [e]
    exact ⟨by rw [nL]; omega, .inl rfl, by rw [bigL]⟩
  by_cases hk2 : k = 2
  · rw [bq hk2]
    conv => whnf
    rw [show decide (((ByteArray.size ⟨s.toArray⟩ : Nat) : Int) > 4096) = false from decide_eq_false (by
      have e : (⟨s.toArray⟩ : ByteArray).size = s.length := List.size_toArray ..
      rw [e]; omega)]
    conv => whnf
    rw [bn (show ¬ k = 1 by omega)]
    conv => whnf
    rw [bq hk2]
    conv => whnf
    by_cases hn : n = 0
    · rw [bq hn]
      conv => whnf
      rw [bl hne]
      conv => whnf
      refine loop_intro (fun y : { j : Nat // j ≤ l.length ∧ 0 ≤ left - 1 - (nL (l.take j) : Int) ∧ ¬ okl (l.drop j) (deep + 1) (left - 1 - (nL (l.take j) : Int)) } =>
        ⟨[(1, i64 deep), (2, .ptr 0 0 0), (3, .ptr 1 0 0), (7, .sl (some 2) 1 (vR (vL (l.take y.1)))), (74, .sl none 4 (itR l)), (75, i64 (l.length : Nat)), (76, i64 (y.1 : Nat))],
          [(0, .own 1 [[i64 (left - 1 - (nL (l.take y.1) : Int))]]), (1, .own 4 [[i64 k, i64 n, str s, .sl none 4 (itR l)]]), (2, .tok 1 y.1)], 106, 3, RLO⟩) (fun y => l.length - y.1) ⟨0, Nat.zero_le _, by rw [List.take_zero, nL]; omega, by rw [List.take_zero, nL, List.drop_zero, show left - 1 - ((0 : Nat) : Int) = left - 1 by omega]; exact ho4⟩ ?_ ?_
      · refine Wk.intro [] rfl (fun p hp => by cases hp) ⟨.same rfl trivial, .same rfl (by exact rfl), .same rfl (by exact rfl), .same ?_ (by exact rfl), .same rfl trivial, .same (congrArg i64 (by rw [itR_len])) trivial, .same rfl trivial, trivial⟩
          ⟨⟨rfl, .inl ⟨?_, lf_lt _ _⟩⟩, ⟨rfl, .inl ⟨rfl, it_row _ _ _ _ _⟩⟩, ⟨rfl, .inl ⟨rfl, trivial⟩⟩, trivial⟩
        · show T.sl (some 2) 1 [] = _
          rw [List.take_zero, vL, vR]
        · show some (Blk.own 1 [[i64 (left - 1)]]) = _
          rw [List.take_zero, nL, show left - 1 - ((0 : Nat) : Int) = left - 1 by omega]
      rintro ⟨j, g1, g2, g3⟩
      dsimp only
      conv => whnf
      refine br_intro (fun h1 => ?_) (fun h1 => ?_) <;> (rw [h1]; conv => whnf)
      · have hj : j < l.length := by have := of_decide_eq_true h1; omega
        have hmem : l[j] ∈ l := List.getElem_mem hj
        have hjn := tk_nL l g1
        have hlen := vLt_len g1
        have htn := take_nL hj
        have htv := take_vR hj
        refine ⟨by omega, nthK_intro (itR_get (List.getElem?_eq_getElem hj)) ?_⟩
        conv => whnf
        rw [wrap_i64 (deep + 1) (by omega) (by omega)]
        have hdr : l.drop j = l[j] :: l.drop (j + 1) := List.drop_eq_getElem_cons hj
        rw [hdr] at g3
        rw [okl_cons] at g3
        have hii := inIs_mem hin.2 hmem
        generalize hlj : l[j] = i at g3 hmem htn htv hii ⊢
        rcases Classical.em (okc i (deep + 1) (left - 1 - (nL (l.take j) : Int))) with g4 | g4
        rotate_left
        · have hc := (ih i hmem).2 (deep + 1) (left - 1 - (nL (l.take j) : Int)) (by omega) (by omega) g2 (by omega) hii g4
          refine .inr ⟨[0], _, _, _, hc, ⟨rfl, ⟨rfl, trivial⟩, rfl, rfl, lf_in rfl⟩, ?_⟩
          conv => whnf
          all_goals rfl
        · replace g3 := fun h => g3 ⟨g4, h⟩
          have hc := (ih i hmem).1 (deep + 1) (left - 1 - (nL (l.take j) : Int)) (by omega) (by omega) g2 (by omega) hii g4
          have hni : ((nL (l.take j) : Nat) : Int) + (nI i : Int) = ((nL (l.take (j + 1)) : Nat) : Int) := by omega
          have hnn : left - 1 - (nL (l.take j) : Int) - (nI i : Int) = left - 1 - (nL (l.take (j + 1)) : Int) := by omega
          have hg4 := g4.1
          rw [hnn] at hc g3
          rcases vT_form (vI i) with ⟨ea, eb, e⟩ | ⟨ea, eb, e⟩ <;> rw [e] at hc htv <;>
            refine .inl ⟨[0], _, _, _, _, lfM (left - 1 - (nL (l.take (j + 1)) : Int)), _, hc, ⟨rfl, ⟨rfl, trivial⟩, rfl, rfl, lf_in rfl, rfl, rfl, lf_out 0 _ _⟩, ?_⟩ <;> (conv => whnf) <;>
            (have nb : (Try.prog.types[20]).bytes = 16 := rfl) <;>
            (refine ⟨hlen, by rw [hlen, nb]; show (j + 1) * 16 ≤ _; omega, by rw [hlen]; show j + 1 ≤ _; omega, ?_⟩) <;>
            (conv => whnf) <;>
            (refine Nx.intro ⟨j + 1, by omega, by omega, g3⟩ (by dsimp only; omega) ?_) <;>
            (refine Wk.intro [] rfl (fun p hp => by cases hp) ⟨.same rfl trivial, .same rfl (by exact rfl), .same rfl (by exact rfl), .same (congrArg (T.sl (some 2) 1) htv.symm) (by exact rfl), .same rfl trivial, .same rfl trivial, .same (congrArg i64 ?_) trivial, trivial⟩
              ⟨⟨rfl, .inl ⟨rfl, lf_lt _ _⟩⟩, ⟨rfl, .inl ⟨rfl, it_row _ _ _ _ _⟩⟩, ⟨rfl, .inl ⟨?_, trivial⟩⟩, trivial⟩) <;>
            first
            | (rw [wrap_i64 _ (by omega) (by omega)]; rfl)
            | (show some (Blk.tok 1 ((vR (vL (l.take j))).length + 1)) = _
               rw [hlen])
      · obtain rfl : j = l.length := by have := of_decide_eq_false h1; omega
        refine absurd ?_ g3
        rw [List.drop_length, List.take_length]
        rw [List.take_length] at g2
        exact ⟨by rw [nL]; exact g2, .inl rfl, by rw [bigL]⟩
    · rw [bn hn]
      conv => whnf
      refine loop_intro (fun y : { j : Nat // j ≤ l.length ∧ 0 ≤ left - 1 - (nL (l.take j) : Int) ∧ ¬ okl (l.drop j) (deep + 1) (left - 1 - (nL (l.take j) : Int)) } =>
        ⟨[(1, i64 deep), (2, .ptr 0 0 0), (3, .ptr 1 0 0), (7, .sl (some 2) 1 (vR (vL (l.take y.1)))), (74, .sl none 4 (itR l)), (75, i64 (l.length : Nat)), (76, i64 (y.1 : Nat))],
          [(0, .own 1 [[i64 (left - 1 - (nL (l.take y.1) : Int))]]), (1, .own 4 [[i64 k, i64 n, str s, .sl none 4 (itR l)]]), (2, .tok 1 y.1)], 106, 3, RLO⟩) (fun y => l.length - y.1) ⟨0, Nat.zero_le _, by rw [List.take_zero, nL]; omega, by rw [List.take_zero, nL, List.drop_zero, show left - 1 - ((0 : Nat) : Int) = left - 1 by omega]; exact ho4⟩ ?_ ?_
      · refine Wk.intro [] rfl (fun p hp => by cases hp) ⟨.same rfl trivial, .same rfl (by exact rfl), .same rfl (by exact rfl), .same ?_ (by exact rfl), .same rfl trivial, .same (congrArg i64 (by rw [itR_len])) trivial, .same rfl trivial, trivial⟩
          ⟨⟨rfl, .inl ⟨?_, lf_lt _ _⟩⟩, ⟨rfl, .inl ⟨rfl, it_row _ _ _ _ _⟩⟩, ⟨rfl, .inl ⟨rfl, trivial⟩⟩, trivial⟩
        · show T.sl (some 2) 1 [] = _
          rw [List.take_zero, vL, vR]
        · show some (Blk.own 1 [[i64 (left - 1)]]) = _
          rw [List.take_zero, nL, show left - 1 - ((0 : Nat) : Int) = left - 1 by omega]
      rintro ⟨j, g1, g2, g3⟩
      dsimp only
      conv => whnf
      refine br_intro (fun h1 => ?_) (fun h1 => ?_) <;> (rw [h1]; conv => whnf)
      · have hj : j < l.length := by have := of_decide_eq_true h1; omega
        have hmem : l[j] ∈ l := List.getElem_mem hj
        have hjn := tk_nL l g1
        have hlen := vLt_len g1
        have htn := take_nL hj
        have htv := take_vR hj
        refine ⟨by omega, nthK_intro (itR_get (List.getElem?_eq_getElem hj)) ?_⟩
        conv => whnf
        rw [wrap_i64 (deep + 1) (by omega) (by omega)]
        have hdr : l.drop j = l[j] :: l.drop (j + 1) := List.drop_eq_getElem_cons hj
        rw [hdr] at g3
        rw [okl_cons] at g3
        have hii := inIs_mem hin.2 hmem
        generalize hlj : l[j] = i at g3 hmem htn htv hii ⊢
        rcases Classical.em (okc i (deep + 1) (left - 1 - (nL (l.take j) : Int))) with g4 | g4
        rotate_left
        · have hc := (ih i hmem).2 (deep + 1) (left - 1 - (nL (l.take j) : Int)) (by omega) (by omega) g2 (by omega) hii g4
          refine .inr ⟨[0], _, _, _, hc, ⟨rfl, ⟨rfl, trivial⟩, rfl, rfl, lf_in rfl⟩, ?_⟩
          conv => whnf
          all_goals rfl
        · replace g3 := fun h => g3 ⟨g4, h⟩
          have hc := (ih i hmem).1 (deep + 1) (left - 1 - (nL (l.take j) : Int)) (by omega) (by omega) g2 (by omega) hii g4
          have hni : ((nL (l.take j) : Nat) : Int) + (nI i : Int) = ((nL (l.take (j + 1)) : Nat) : Int) := by omega
          have hnn : left - 1 - (nL (l.take j) : Int) - (nI i : Int) = left - 1 - (nL (l.take (j + 1)) : Int) := by omega
          have hg4 := g4.1
          rw [hnn] at hc g3
          rcases vT_form (vI i) with ⟨ea, eb, e⟩ | ⟨ea, eb, e⟩ <;> rw [e] at hc htv <;>
            refine .inl ⟨[0], _, _, _, _, lfM (left - 1 - (nL (l.take (j + 1)) : Int)), _, hc, ⟨rfl, ⟨rfl, trivial⟩, rfl, rfl, lf_in rfl, rfl, rfl, lf_out 0 _ _⟩, ?_⟩ <;> (conv => whnf) <;>
            (have nb : (Try.prog.types[20]).bytes = 16 := rfl) <;>
            (refine ⟨hlen, by rw [hlen, nb]; show (j + 1) * 16 ≤ _; omega, by rw [hlen]; show j + 1 ≤ _; omega, ?_⟩) <;>
            (conv => whnf) <;>
            (refine Nx.intro ⟨j + 1, by omega, by omega, g3⟩ (by dsimp only; omega) ?_) <;>
            (refine Wk.intro [] rfl (fun p hp => by cases hp) ⟨.same rfl trivial, .same rfl (by exact rfl), .same rfl (by exact rfl), .same (congrArg (T.sl (some 2) 1) htv.symm) (by exact rfl), .same rfl trivial, .same rfl trivial, .same (congrArg i64 ?_) trivial, trivial⟩
              ⟨⟨rfl, .inl ⟨rfl, lf_lt _ _⟩⟩, ⟨rfl, .inl ⟨rfl, it_row _ _ _ _ _⟩⟩, ⟨rfl, .inl ⟨?_, trivial⟩⟩, trivial⟩) <;>
            first
            | (rw [wrap_i64 _ (by omega) (by omega)]; rfl)
            | (show some (Blk.tok 1 ((vR (vL (l.take j))).length + 1)) = _
               rw [hlen])
      · obtain rfl : j = l.length := by have := of_decide_eq_false h1; omega
        refine absurd ?_ g3
        rw [List.drop_length, List.take_length]
        rw [List.take_length] at g2
        exact ⟨by rw [nL]; exact g2, .inl rfl, by rw [bigL]⟩
  · rw [bn hk2]
    conv => whnf
    by_cases hk1 : k = 1
    · rw [bq hk1]
      conv => whnf
      by_cases hs : s = []
      · rw [show (ByteArray.toList ⟨s.toArray⟩ == ByteArray.toList ⟨#[]⟩) = true by rw [empty_eq, hs]; rfl]
        conv => whnf
        rw [bl hne]
        conv => whnf
        rw [bn hk2]
        conv => whnf
        refine loop_intro (fun y : { j : Nat // j ≤ l.length ∧ 0 ≤ left - 1 - (nL (l.take j) : Int) ∧ ¬ okl (l.drop j) (deep + 1) (left - 1 - (nL (l.take j) : Int)) } =>
          ⟨[(1, i64 deep), (2, .ptr 0 0 0), (3, .ptr 1 0 0), (7, .sl (some 2) 1 (vR (vL (l.take y.1)))), (74, .sl none 4 (itR l)), (75, i64 (l.length : Nat)), (76, i64 (y.1 : Nat))],
            [(0, .own 1 [[i64 (left - 1 - (nL (l.take y.1) : Int))]]), (1, .own 4 [[i64 k, i64 n, str s, .sl none 4 (itR l)]]), (2, .tok 1 y.1)], 106, 3, RLO⟩) (fun y => l.length - y.1) ⟨0, Nat.zero_le _, by rw [List.take_zero, nL]; omega, by rw [List.take_zero, nL, List.drop_zero, show left - 1 - ((0 : Nat) : Int) = left - 1 by omega]; exact ho4⟩ ?_ ?_
        · refine Wk.intro [] rfl (fun p hp => by cases hp) ⟨.same rfl trivial, .same rfl (by exact rfl), .same rfl (by exact rfl), .same ?_ (by exact rfl), .same rfl trivial, .same (congrArg i64 (by rw [itR_len])) trivial, .same rfl trivial, trivial⟩
            ⟨⟨rfl, .inl ⟨?_, lf_lt _ _⟩⟩, ⟨rfl, .inl ⟨rfl, it_row _ _ _ _ _⟩⟩, ⟨rfl, .inl ⟨rfl, trivial⟩⟩, trivial⟩
          · show T.sl (some 2) 1 [] = _
            rw [List.take_zero, vL, vR]
          · show some (Blk.own 1 [[i64 (left - 1)]]) = _
            rw [List.take_zero, nL, show left - 1 - ((0 : Nat) : Int) = left - 1 by omega]
        rintro ⟨j, g1, g2, g3⟩
        dsimp only
        conv => whnf
        refine br_intro (fun h1 => ?_) (fun h1 => ?_) <;> (rw [h1]; conv => whnf)
        · have hj : j < l.length := by have := of_decide_eq_true h1; omega
          have hmem : l[j] ∈ l := List.getElem_mem hj
          have hjn := tk_nL l g1
          have hlen := vLt_len g1
          have htn := take_nL hj
          have htv := take_vR hj
          refine ⟨by omega, nthK_intro (itR_get (List.getElem?_eq_getElem hj)) ?_⟩
          conv => whnf
          rw [wrap_i64 (deep + 1) (by omega) (by omega)]
          have hdr : l.drop j = l[j] :: l.drop (j + 1) := List.drop_eq_getElem_cons hj
          rw [hdr] at g3
          rw [okl_cons] at g3
          have hii := inIs_mem hin.2 hmem
          generalize hlj : l[j] = i at g3 hmem htn htv hii ⊢
          rcases Classical.em (okc i (deep + 1) (left - 1 - (nL (l.take j) : Int))) with g4 | g4
          rotate_left
          · have hc := (ih i hmem).2 (deep + 1) (left - 1 - (nL (l.take j) : Int)) (by omega) (by omega) g2 (by omega) hii g4
            refine .inr ⟨[0], _, _, _, hc, ⟨rfl, ⟨rfl, trivial⟩, rfl, rfl, lf_in rfl⟩, ?_⟩
            conv => whnf
            all_goals rfl
          · replace g3 := fun h => g3 ⟨g4, h⟩
            have hc := (ih i hmem).1 (deep + 1) (left - 1 - (nL (l.take j) : Int)) (by omega) (by omega) g2 (by omega) hii g4
            have hni : ((nL (l.take j) : Nat) : Int) + (nI i : Int) = ((nL (l.take (j + 1)) : Nat) : Int) := by omega
            have hnn : left - 1 - (nL (l.take j) : Int) - (nI i : Int) = left - 1 - (nL (l.take (j + 1)) : Int) := by omega
            have hg4 := g4.1
            rw [hnn] at hc g3
            rcases vT_form (vI i) with ⟨ea, eb, e⟩ | ⟨ea, eb, e⟩ <;> rw [e] at hc htv <;>
              refine .inl ⟨[0], _, _, _, _, lfM (left - 1 - (nL (l.take (j + 1)) : Int)), _, hc, ⟨rfl, ⟨rfl, trivial⟩, rfl, rfl, lf_in rfl, rfl, rfl, lf_out 0 _ _⟩, ?_⟩ <;> (conv => whnf) <;>
              (have nb : (Try.prog.types[20]).bytes = 16 := rfl) <;>
              (refine ⟨hlen, by rw [hlen, nb]; show (j + 1) * 16 ≤ _; omega, by rw [hlen]; show j + 1 ≤ _; omega, ?_⟩) <;>
              (conv => whnf) <;>
              (refine Nx.intro ⟨j + 1, by omega, by omega, g3⟩ (by dsimp only; omega) ?_) <;>
              (refine Wk.intro [] rfl (fun p hp => by cases hp) ⟨.same rfl trivial, .same rfl (by exact rfl), .same rfl (by exact rfl), .same (congrArg (T.sl (some 2) 1) htv.symm) (by exact rfl), .same rfl trivial, .same rfl trivial, .same (congrArg i64 ?_) trivial, trivial⟩
                ⟨⟨rfl, .inl ⟨rfl, lf_lt _ _⟩⟩, ⟨rfl, .inl ⟨rfl, it_row _ _ _ _ _⟩⟩, ⟨rfl, .inl ⟨?_, trivial⟩⟩, trivial⟩) <;>
              first
              | (rw [wrap_i64 _ (by omega) (by omega)]; rfl)
              | (show some (Blk.tok 1 ((vR (vL (l.take j))).length + 1)) = _
                 rw [hlen])
        · obtain rfl : j = l.length := by have := of_decide_eq_false h1; omega
          refine absurd ?_ g3
          rw [List.drop_length, List.take_length]
          rw [List.take_length] at g2
          exact ⟨by rw [nL]; exact g2, .inl rfl, by rw [bigL]⟩
      · rw [be hs]
        conv => whnf
        rw [bn hk2]
        conv => whnf
        refine loop_intro (fun y : { j : Nat // j ≤ l.length ∧ 0 ≤ left - 1 - (nL (l.take j) : Int) ∧ ¬ okl (l.drop j) (deep + 1) (left - 1 - (nL (l.take j) : Int)) } =>
          ⟨[(1, i64 deep), (2, .ptr 0 0 0), (3, .ptr 1 0 0), (7, .sl (some 2) 1 (vR (vL (l.take y.1)))), (74, .sl none 4 (itR l)), (75, i64 (l.length : Nat)), (76, i64 (y.1 : Nat))],
            [(0, .own 1 [[i64 (left - 1 - (nL (l.take y.1) : Int))]]), (1, .own 4 [[i64 k, i64 n, str s, .sl none 4 (itR l)]]), (2, .tok 1 y.1)], 106, 3, RLO⟩) (fun y => l.length - y.1) ⟨0, Nat.zero_le _, by rw [List.take_zero, nL]; omega, by rw [List.take_zero, nL, List.drop_zero, show left - 1 - ((0 : Nat) : Int) = left - 1 by omega]; exact ho4⟩ ?_ ?_
        · refine Wk.intro [] rfl (fun p hp => by cases hp) ⟨.same rfl trivial, .same rfl (by exact rfl), .same rfl (by exact rfl), .same ?_ (by exact rfl), .same rfl trivial, .same (congrArg i64 (by rw [itR_len])) trivial, .same rfl trivial, trivial⟩
            ⟨⟨rfl, .inl ⟨?_, lf_lt _ _⟩⟩, ⟨rfl, .inl ⟨rfl, it_row _ _ _ _ _⟩⟩, ⟨rfl, .inl ⟨rfl, trivial⟩⟩, trivial⟩
          · show T.sl (some 2) 1 [] = _
            rw [List.take_zero, vL, vR]
          · show some (Blk.own 1 [[i64 (left - 1)]]) = _
            rw [List.take_zero, nL, show left - 1 - ((0 : Nat) : Int) = left - 1 by omega]
        rintro ⟨j, g1, g2, g3⟩
        dsimp only
        conv => whnf
        refine br_intro (fun h1 => ?_) (fun h1 => ?_) <;> (rw [h1]; conv => whnf)
        · have hj : j < l.length := by have := of_decide_eq_true h1; omega
          have hmem : l[j] ∈ l := List.getElem_mem hj
          have hjn := tk_nL l g1
          have hlen := vLt_len g1
          have htn := take_nL hj
          have htv := take_vR hj
          refine ⟨by omega, nthK_intro (itR_get (List.getElem?_eq_getElem hj)) ?_⟩
          conv => whnf
          rw [wrap_i64 (deep + 1) (by omega) (by omega)]
          have hdr : l.drop j = l[j] :: l.drop (j + 1) := List.drop_eq_getElem_cons hj
          rw [hdr] at g3
          rw [okl_cons] at g3
          have hii := inIs_mem hin.2 hmem
          generalize hlj : l[j] = i at g3 hmem htn htv hii ⊢
          rcases Classical.em (okc i (deep + 1) (left - 1 - (nL (l.take j) : Int))) with g4 | g4
          rotate_left
          · have hc := (ih i hmem).2 (deep + 1) (left - 1 - (nL (l.take j) : Int)) (by omega) (by omega) g2 (by omega) hii g4
            refine .inr ⟨[0], _, _, _, hc, ⟨rfl, ⟨rfl, trivial⟩, rfl, rfl, lf_in rfl⟩, ?_⟩
            conv => whnf
            all_goals rfl
          · replace g3 := fun h => g3 ⟨g4, h⟩
            have hc := (ih i hmem).1 (deep + 1) (left - 1 - (nL (l.take j) : Int)) (by omega) (by omega) g2 (by omega) hii g4
            have hni : ((nL (l.take j) : Nat) : Int) + (nI i : Int) = ((nL (l.take (j + 1)) : Nat) : Int) := by omega
            have hnn : left - 1 - (nL (l.take j) : Int) - (nI i : Int) = left - 1 - (nL (l.take (j + 1)) : Int) := by omega
            have hg4 := g4.1
            rw [hnn] at hc g3
            rcases vT_form (vI i) with ⟨ea, eb, e⟩ | ⟨ea, eb, e⟩ <;> rw [e] at hc htv <;>
              refine .inl ⟨[0], _, _, _, _, lfM (left - 1 - (nL (l.take (j + 1)) : Int)), _, hc, ⟨rfl, ⟨rfl, trivial⟩, rfl, rfl, lf_in rfl, rfl, rfl, lf_out 0 _ _⟩, ?_⟩ <;> (conv => whnf) <;>
              (have nb : (Try.prog.types[20]).bytes = 16 := rfl) <;>
              (refine ⟨hlen, by rw [hlen, nb]; show (j + 1) * 16 ≤ _; omega, by rw [hlen]; show j + 1 ≤ _; omega, ?_⟩) <;>
              (conv => whnf) <;>
              (refine Nx.intro ⟨j + 1, by omega, by omega, g3⟩ (by dsimp only; omega) ?_) <;>
              (refine Wk.intro [] rfl (fun p hp => by cases hp) ⟨.same rfl trivial, .same rfl (by exact rfl), .same rfl (by exact rfl), .same (congrArg (T.sl (some 2) 1) htv.symm) (by exact rfl), .same rfl trivial, .same rfl trivial, .same (congrArg i64 ?_) trivial, trivial⟩
                ⟨⟨rfl, .inl ⟨rfl, lf_lt _ _⟩⟩, ⟨rfl, .inl ⟨rfl, it_row _ _ _ _ _⟩⟩, ⟨rfl, .inl ⟨?_, trivial⟩⟩, trivial⟩) <;>
              first
              | (rw [wrap_i64 _ (by omega) (by omega)]; rfl)
              | (show some (Blk.tok 1 ((vR (vL (l.take j))).length + 1)) = _
                 rw [hlen])
        · obtain rfl : j = l.length := by have := of_decide_eq_false h1; omega
          refine absurd ?_ g3
          rw [List.drop_length, List.take_length]
          rw [List.take_length] at g2
          exact ⟨by rw [nL]; exact g2, .inl rfl, by rw [bigL]⟩
    · rw [bn hk1]
      conv => whnf
      rw [bn hk2]
      conv => whnf
      refine loop_intro (fun y : { j : Nat // j ≤ l.length ∧ 0 ≤ left - 1 - (nL (l.take j) : Int) ∧ ¬ okl (l.drop j) (deep + 1) (left - 1 - (nL (l.take j) : Int)) } =>
        ⟨[(1, i64 deep), (2, .ptr 0 0 0), (3, .ptr 1 0 0), (7, .sl (some 2) 1 (vR (vL (l.take y.1)))), (74, .sl none 4 (itR l)), (75, i64 (l.length : Nat)), (76, i64 (y.1 : Nat))],
          [(0, .own 1 [[i64 (left - 1 - (nL (l.take y.1) : Int))]]), (1, .own 4 [[i64 k, i64 n, str s, .sl none 4 (itR l)]]), (2, .tok 1 y.1)], 106, 3, RLO⟩) (fun y => l.length - y.1) ⟨0, Nat.zero_le _, by rw [List.take_zero, nL]; omega, by rw [List.take_zero, nL, List.drop_zero, show left - 1 - ((0 : Nat) : Int) = left - 1 by omega]; exact ho4⟩ ?_ ?_
      · refine Wk.intro [] rfl (fun p hp => by cases hp) ⟨.same rfl trivial, .same rfl (by exact rfl), .same rfl (by exact rfl), .same ?_ (by exact rfl), .same rfl trivial, .same (congrArg i64 (by rw [itR_len])) trivial, .same rfl trivial, trivial⟩
          ⟨⟨rfl, .inl ⟨?_, lf_lt _ _⟩⟩, ⟨rfl, .inl ⟨rfl, it_row _ _ _ _ _⟩⟩, ⟨rfl, .inl ⟨rfl, trivial⟩⟩, trivial⟩
        · show T.sl (some 2) 1 [] = _
          rw [List.take_zero, vL, vR]
        · show some (Blk.own 1 [[i64 (left - 1)]]) = _
          rw [List.take_zero, nL, show left - 1 - ((0 : Nat) : Int) = left - 1 by omega]
      rintro ⟨j, g1, g2, g3⟩
      dsimp only
      conv => whnf
      refine br_intro (fun h1 => ?_) (fun h1 => ?_) <;> (rw [h1]; conv => whnf)
      · have hj : j < l.length := by have := of_decide_eq_true h1; omega
        have hmem : l[j] ∈ l := List.getElem_mem hj
        have hjn := tk_nL l g1
        have hlen := vLt_len g1
        have htn := take_nL hj
        have htv := take_vR hj
        refine ⟨by omega, nthK_intro (itR_get (List.getElem?_eq_getElem hj)) ?_⟩
        conv => whnf
        rw [wrap_i64 (deep + 1) (by omega) (by omega)]
        have hdr : l.drop j = l[j] :: l.drop (j + 1) := List.drop_eq_getElem_cons hj
        rw [hdr] at g3
        rw [okl_cons] at g3
        have hii := inIs_mem hin.2 hmem
        generalize hlj : l[j] = i at g3 hmem htn htv hii ⊢
        rcases Classical.em (okc i (deep + 1) (left - 1 - (nL (l.take j) : Int))) with g4 | g4
        rotate_left
        · have hc := (ih i hmem).2 (deep + 1) (left - 1 - (nL (l.take j) : Int)) (by omega) (by omega) g2 (by omega) hii g4
          refine .inr ⟨[0], _, _, _, hc, ⟨rfl, ⟨rfl, trivial⟩, rfl, rfl, lf_in rfl⟩, ?_⟩
          conv => whnf
          all_goals rfl
        · replace g3 := fun h => g3 ⟨g4, h⟩
          have hc := (ih i hmem).1 (deep + 1) (left - 1 - (nL (l.take j) : Int)) (by omega) (by omega) g2 (by omega) hii g4
          have hni : ((nL (l.take j) : Nat) : Int) + (nI i : Int) = ((nL (l.take (j + 1)) : Nat) : Int) := by omega
          have hnn : left - 1 - (nL (l.take j) : Int) - (nI i : Int) = left - 1 - (nL (l.take (j + 1)) : Int) := by omega
          have hg4 := g4.1
          rw [hnn] at hc g3
          rcases vT_form (vI i) with ⟨ea, eb, e⟩ | ⟨ea, eb, e⟩ <;> rw [e] at hc htv <;>
            refine .inl ⟨[0], _, _, _, _, lfM (left - 1 - (nL (l.take (j + 1)) : Int)), _, hc, ⟨rfl, ⟨rfl, trivial⟩, rfl, rfl, lf_in rfl, rfl, rfl, lf_out 0 _ _⟩, ?_⟩ <;> (conv => whnf) <;>
            (have nb : (Try.prog.types[20]).bytes = 16 := rfl) <;>
            (refine ⟨hlen, by rw [hlen, nb]; show (j + 1) * 16 ≤ _; omega, by rw [hlen]; show j + 1 ≤ _; omega, ?_⟩) <;>
            (conv => whnf) <;>
            (refine Nx.intro ⟨j + 1, by omega, by omega, g3⟩ (by dsimp only; omega) ?_) <;>
            (refine Wk.intro [] rfl (fun p hp => by cases hp) ⟨.same rfl trivial, .same rfl (by exact rfl), .same rfl (by exact rfl), .same (congrArg (T.sl (some 2) 1) htv.symm) (by exact rfl), .same rfl trivial, .same rfl trivial, .same (congrArg i64 ?_) trivial, trivial⟩
              ⟨⟨rfl, .inl ⟨rfl, lf_lt _ _⟩⟩, ⟨rfl, .inl ⟨rfl, it_row _ _ _ _ _⟩⟩, ⟨rfl, .inl ⟨?_, trivial⟩⟩, trivial⟩) <;>
            first
            | (rw [wrap_i64 _ (by omega) (by omega)]; rfl)
            | (show some (Blk.tok 1 ((vR (vL (l.take j))).length + 1)) = _
               rw [hlen])
      · obtain rfl : j = l.length := by have := of_decide_eq_false h1; omega
        refine absurd ?_ g3
        rw [List.drop_length, List.take_length]
        rw [List.take_length] at g2
        exact ⟨by rw [nL]; exact g2, .inl rfl, by rw [bigL]⟩
theorem of_law : ∀ i : It, OfOk i ∧ OfNo i
  | .mk k n s l =>
    have ih : ∀ i ∈ l, OfOk i ∧ OfNo i := fun i hi => of_law i
    ⟨by
      by_cases hA : k = 1 ∧ s = [] ∧ l = []
      · exact of_num k n s l hA
      by_cases hB : k = 2 ∧ n = 0 ∧ l = []
      · obtain ⟨rfl, rfl, rfl⟩ := hB
        exact of_txt s
      by_cases hC : k ≠ 3 ∨ n ≠ 0 ∨ s ≠ []
      · exact of_bad k n s l ih hA hB hC
      · exact of_lst k n s l ih hA hB ⟨Classical.byContradiction fun h => hC (.inl h), Classical.byContradiction fun h => hC (.inr (.inl h)), Classical.byContradiction fun h => hC (.inr (.inr h))⟩,
     of_no k n s l ih⟩
termination_by i => SizeOf.sizeOf i
decreasing_by
  have := List.sizeOf_lt_of_mem hi
  simp only [It.mk.sizeOf_spec]
  omega
end Go.AW.Wir

/- The wire: encoding, walked. -/
set_option linter.unusedVariables false
set_option linter.unusedSimpArgs false
namespace Go.AW.Wir
open Go Go.AW Go.Proofs
set_option maxRecDepth 10000
set_option pp.maxSteps 60

abbrev nilS : T := .lit (.slice none 0 0)
/-- What stands ready at an encoding's end. -/
def ecM (b : List UInt8) : Mem := [(0, .own 1 [[.sl (some 2) 1 (bytesR b)]]), (1, .own 1 [[i64 0]]), (2, .tok 1 b.length)]
def exM (e : Int) : Mem := [(0, .own 1 [[nilS]]), (1, .own 1 [[i64 e]])]
theorem nil_flat : flatB [[nilS]] := by
  intro row hr c hc
  obtain rfl := List.mem_singleton.1 hr
  obtain rfl := List.mem_singleton.1 hc
  rfl
theorem ec_dom (σ : List (Nat × Nat)) (b : List UInt8) (h : asHas σ 2 = true) : domB σ (.own 1 [[.sl (some 2) 1 (bytesR b)]]) := by
  intro row hr c hc
  obtain rfl := List.mem_singleton.1 hr
  obtain rfl := List.mem_singleton.1 hc
  exact h
theorem denc_none (b : List UInt8) : FCd Try.prog 41 [.ptr 0 0 0, .ptr 1 0 0] (ecM b) 3 none (ecM b) := by
  refine FCd_of_awp (fn := Try.f41) Try.func41 rfl rfl rfl rfl rfl (of_decide_eq_true rfl) rfl (of_decide_eq_true rfl) rfl [2000003] rfl ?_
  conv => whnf
  exact ⟨[(0, 0), (1, 1), (2, 2)], ⟨rfl, rfl, rfl⟩, trivial, ⟨0, _, rfl, rfl, rfl, rfl, ec_dom _ _ rfl⟩, ⟨1, _, rfl, rfl, rfl, renB_flat _ (one_flat 0), domB_flat _ (one_flat 0)⟩, ⟨2, _, rfl, rfl, rfl, rfl, trivial⟩, trivial⟩
theorem denc_some (v : Int) : FCd Try.prog 41 [.ptr 0 0 0, .ptr 1 0 0] (exM 0) 2 (some (flt v)) (exM v) := by
  refine FCd_of_awp (fn := Try.f41) Try.func41 rfl rfl rfl rfl rfl (of_decide_eq_true rfl) rfl (of_decide_eq_true rfl) rfl [2000002] rfl ?_
  conv => whnf
  exact ⟨[(0, 0), (1, 1)], ⟨rfl, rfl, rfl⟩, trivial, ⟨0, _, rfl, rfl, rfl, rfl, domB_flat _ nil_flat⟩, ⟨1, _, rfl, rfl, rfl, rfl, domB_flat _ (one_flat v)⟩, trivial⟩
theorem ec_in {m : Mem} (j : Nat) {b : List UInt8} (h0 : m.get 1 = some (.own 1 [[.sl (some j) 1 (bytesR b)]])) (h1 : m.get 2 = some (.own 1 [[i64 0]])) (h2 : m.get j = some (.tok 1 b.length)) : memIn (asIn [1, 2, j] 0) m (ecM b) :=
  ⟨⟨rfl, h0, ec_dom _ _ rfl⟩, ⟨rfl, by rw [renB_flat _ (one_flat 0)]; exact h1, domB_flat _ (one_flat 0)⟩, ⟨rfl, h2, trivial⟩, trivial⟩
theorem ec_out (j id : Nat) (b : List UInt8) : memOut (asIn ([1, 2, j] ++ [id]) 0) (ecM b) [(1, .own 1 [[.sl (some j) 1 (bytesR b)]]), (2, .own 1 [[i64 0]]), (j, .tok 1 b.length)] :=
  ⟨⟨rfl, rfl, rfl, ec_dom _ _ rfl⟩, ⟨rfl, rfl, renB_flat _ (one_flat 0), domB_flat _ (one_flat 0)⟩, ⟨rfl, rfl, rfl, trivial⟩, trivial⟩
theorem ex_in {m : Mem} {e : Int} (h0 : m.get 1 = some (.own 1 [[nilS]])) (h1 : m.get 2 = some (.own 1 [[i64 e]])) : memIn (asIn [1, 2] 0) m (exM e) :=
  ⟨⟨rfl, by rw [renB_flat _ nil_flat]; exact h0, domB_flat _ nil_flat⟩, ⟨rfl, by rw [renB_flat _ (one_flat e)]; exact h1, domB_flat _ (one_flat e)⟩, trivial⟩
theorem ex_out (id : Nat) (e : Int) : memOut (asIn ([1, 2] ++ [id]) 0) (exM e) [(1, .own 1 [[nilS]]), (2, .own 1 [[i64 e]])] :=
  ⟨⟨rfl, rfl, renB_flat _ nil_flat, domB_flat _ nil_flat⟩, ⟨rfl, rfl, renB_flat _ (one_flat e), domB_flat _ (one_flat e)⟩, trivial⟩

theorem encode_law (i : It) (hi : inI i) : FCv Try.prog 20 [itT i] (.tup [.sl none 1 (bytesR (encode i).1), i64 (encode i).2]) := by
  refine FCv_of_defer (fn := Try.f20) (g := 41) (gn := Try.f41) Try.func20 rfl rfl rfl rfl rfl rfl rfl Try.func41 rfl rfl (of_decide_eq_true rfl) [2000003, 1000000 + 43, 3000000 + 43, 1000000 + 42, 3000000 + 42] ?_
  have hrow : itT i = .agg [i64 i.k, i64 i.n, str i.s, .sl none 4 (itR i.l)] := congrArg T.agg (itC_eq _)
  by_cases ho : okc i 1 4096
  · have h1 := (of_law i).1 1 4096 (by decide) (by decide) (by decide) (by decide) hi ho
    have hsz := szV_vI ho.2.2
    have hnl := ho.1
    cases hv : enV (vI i) with
    | none =>
      have hr : encode i = ([], 4) := by unfold encode; rw [if_pos ho, hv]
      rw [hr]
      have h2 := put_no0 (vI i) (by omega) (inV_vI hi) hv
      rw [hrow] at h1 ⊢
      rcases vT_form (vI i) with ⟨ea, eb, e⟩ | ⟨ea, eb, e⟩ <;> rw [e] at h1 h2 <;> (conv => whnf) <;>
        refine .inl ⟨[3], _, _, _, _, [(3, .own 1 [[i64 (4096 - (nI i : Int))]])], _, h1, ⟨rfl, ⟨rfl, trivial⟩, rfl, rfl, lf_in rfl, rfl, rfl, lf_out 3 _ _⟩, ?_⟩ <;> (conv => whnf) <;>
        refine .inr ⟨[], _, _, _, h2, ⟨rfl, trivial, rfl, rfl, trivial⟩, ?_⟩ <;> (conv => whnf) <;>
        refine ⟨[1, 2], [.ptr 0 0 0, .ptr 1 0 0], exM 0, exM 4, [(1, .own 1 [[nilS]]), (2, .own 1 [[i64 4]])], denc_some 4, ⟨rfl, ⟨rfl, rfl, trivial⟩, rfl, rfl, ex_in rfl rfl, ex_out _ 4⟩, ?_⟩ <;> (conv => whnf) <;>
        exact ⟨.inr (.inl ⟨rfl, 1, rfl⟩), .inl rfl, trivial⟩
    | some b =>
      have hr : encode i = (b, 0) := by unfold encode; rw [if_pos ho, hv]
      rw [hr]
      have h2 := put_ok0 (vI i) b (by omega) (inV_vI hi) hv
      rw [hrow] at h1 ⊢
      rcases vT_form (vI i) with ⟨ea, eb, e⟩ | ⟨ea, eb, e⟩ <;> rw [e] at h1 h2 <;> (conv => whnf) <;>
        refine .inl ⟨[3], _, _, _, _, [(3, .own 1 [[i64 (4096 - (nI i : Int))]])], _, h1, ⟨rfl, ⟨rfl, trivial⟩, rfl, rfl, lf_in rfl, rfl, rfl, lf_out 3 _ _⟩, ?_⟩ <;> (conv => whnf) <;>
        refine .inl ⟨[], _, _, _, _, [(5, .tok 1 b.length)], _, h2, ⟨rfl, trivial, rfl, rfl, trivial, rfl, rfl, ⟨⟨rfl, rfl, rfl, trivial⟩, trivial⟩⟩, ?_⟩ <;> (conv => whnf) <;>
        refine ⟨[1, 2, 5], [.ptr 0 0 0, .ptr 1 0 0], ecM b, ecM b, [(1, .own 1 [[.sl (some 5) 1 (bytesR b)]]), (2, .own 1 [[i64 0]]), (5, .tok 1 b.length)], denc_none b, ⟨rfl, ⟨rfl, rfl, rfl, trivial⟩, rfl, rfl, ec_in 5 rfl rfl rfl, ec_out 5 _ b⟩, ?_⟩ <;> (conv => whnf) <;>
        (refine ⟨?_, .inl rfl, trivial⟩) <;> (conv => whnf) <;> exact .inl rfl
  · have h1 := (of_law i).2 1 4096 (by decide) (by decide) (by decide) (by decide) hi ho
    have hr : encode i = ([], 3) := by unfold encode; rw [if_neg ho]
    rw [hr]
    rw [hrow] at h1 ⊢
    conv => whnf
    refine .inr ⟨[3], _, _, _, h1, ⟨rfl, ⟨rfl, trivial⟩, rfl, rfl, lf_in rfl⟩, ?_⟩
    conv => whnf
    refine ⟨[1, 2], [.ptr 0 0 0, .ptr 1 0 0], exM 0, exM 3, [(1, .own 1 [[nilS]]), (2, .own 1 [[i64 3]])], denc_some 3, ⟨rfl, ⟨rfl, rfl, trivial⟩, rfl, rfl, ex_in rfl rfl, ex_out _ 3⟩, ?_⟩
    conv => whnf
    exact ⟨.inr (.inl ⟨rfl, 1, rfl⟩), .inl rfl, trivial⟩
end Go.AW.Wir

/- The wire: sizes, counts of items, walked. -/
set_option linter.unusedVariables false
set_option linter.unusedSimpArgs false
namespace Go.AW.Wir
open Go Go.AW Go.Proofs
set_option maxRecDepth 10000
set_option pp.maxSteps 60

theorem itT_row (i : It) : itT i = .agg [i64 i.k, i64 i.n, str i.s, .sl none 4 (itR i.l)] := congrArg T.agg (itC_eq _)
theorem itT_mk (k n : Int) (s : List UInt8) (l : List It) : itT (.mk k n s l) = .agg [i64 k, i64 n, str s, .sl none 4 (itR l)] := congrArg T.agg (itC_eq _)
theorem num_law (n : Int) : FCv Try.prog 22 [i64 n] (itT (.mk 1 n [] [])) := by
  refine FCv_of_awp (fn := Try.f22) (c := bodyC Try.f22) Try.func22 rfl (of_decide_eq_true rfl) [] ?_
  conv => whnf
  exact .inr (.inr (.inr ⟨.inl rfl, .inl rfl, .inl rfl, .inr (.inl ⟨rfl, 4, rfl⟩), trivial⟩))
theorem str_law (s : List UInt8) : FCv Try.prog 23 [str s] (itT (.mk 2 0 s [])) := by
  refine FCv_of_awp (fn := Try.f23) (c := bodyC Try.f23) Try.func23 rfl (of_decide_eq_true rfl) [] ?_
  conv => whnf
  exact .inr (.inr (.inr ⟨.inl rfl, .inl rfl, .inl rfl, .inr (.inl ⟨rfl, 4, rfl⟩), trivial⟩))
theorem row_law (l : List It) : FCv Try.prog 21 [.sl none 4 (itR l)] (itT (.mk 3 0 [] l)) := by
  refine FCv_of_awp (fn := Try.f21) (c := bodyC Try.f21) Try.func21 rfl (of_decide_eq_true rfl) [] ?_
  conv => whnf
  exact .inl (itT_mk 3 0 [] l).symm

def ItmOk (i : It) : Prop := ∀ most deep : Int, 0 ≤ most → most ≤ 100000 → 1 ≤ deep → deep ≤ 13 → FCv Try.prog 44 [itT i, i64 most, i64 deep] (.tup [i64 (itN i most deep).1, i64 (itN i most deep).2])
theorem items_mk (k n : Int) (s : List UInt8) (l : List It) (ih : ∀ i ∈ l, ItmOk i) : ItmOk (.mk k n s l) := by
  intro most deep hm0 hm1 hd1 hd2
  rw [itN_mk, itT_mk]
  refine FCv_of_awp (fn := Try.f44) (c := bodyC Try.f44) Try.func44 rfl (of_decide_eq_true rfl) [] ?_
  conv => whnf
  refine loop_intro (fun y : { p : Nat × Int × Int // p.1 ≤ l.length ∧ (p.1 : Int) + 1 ≤ p.2.1 ∧ p.2.1 ≤ most + 1 ∧ deep ≤ p.2.2 ∧ p.2.2 ≤ 13 ∧ itNL l most deep 1 deep = itNL (l.drop p.1) most deep p.2.1 p.2.2 } =>
    ⟨[(1, i64 most), (2, i64 deep), (3, .ptr 0 0 0), (8, i64 y.1.2.1), (9, i64 y.1.2.2), (10, i64 (y.1.1 : Nat))], [(0, .own 4 [[i64 k, i64 n, str s, .sl none 4 (itR l)]])], 53, 1, []⟩)
    (fun y => l.length - y.1.1) ⟨(0, 1, deep), Nat.zero_le _, by dsimp only; omega, by dsimp only; omega, Int.le_refl _, hd2, rfl⟩ ?_ ?_
  · exact Wk.intro [] rfl (fun p hp => by cases hp) ⟨.same rfl trivial, .same rfl trivial, .same rfl (by exact rfl), .same rfl trivial, .same rfl trivial, .same rfl trivial, trivial⟩ ⟨⟨rfl, .inl ⟨rfl, it_row _ _ _ _ _⟩⟩, trivial⟩
  rintro ⟨⟨j, a, d⟩, g1, g2, g3, g4, g5, g6⟩
  dsimp only at g1 g2 g3 g4 g5 g6 ⊢
  conv => whnf
  refine br_intro (fun h1 => ?_) (fun h1 => ?_) <;> (rw [h1]; conv => whnf) <;> rw [itR_len] at h1
  · have hj : j < l.length := by have := of_decide_eq_true h1; omega
    have hdr : l.drop j = l[j] :: l.drop (j + 1) := List.drop_eq_getElem_cons hj
    rw [hdr, itNL_cons] at g6
    refine br_intro (fun h2 => ?_) (fun h2 => ?_) <;> (rw [h2]; conv => whnf)
    · have h2' := of_decide_eq_true h2
      refine br_intro (fun h3 => ?_) (fun h3 => ?_) <;> (rw [h3]; conv => whnf)
      · have h3' := of_decide_eq_true h3
        refine ⟨by omega, nthK_intro (itR_get (List.getElem?_eq_getElem hj)) ?_⟩
        conv => whnf
        rw [wrap_i64 (most - a) (by omega) (by omega), wrap_i64 (deep + 1) (by omega) (by omega)]
        have hc := ih l[j] (List.getElem_mem hj) (most - a) (deep + 1) (by omega) (by omega) (by omega) (by omega)
        have hr := itN_rng l[j] (most - a) (deep + 1) (by omega) (by omega)
        rw [if_pos ⟨h2', h3'⟩] at g6
        generalize itN l[j] (most - a) (deep + 1) = p at hc hr g6
        obtain ⟨p1, p2⟩ := p
        dsimp only at hc hr g6
        refine ⟨_, hc, ?_⟩
        conv => whnf
        rw [wrap_i64 (a + p1) (by omega) (by omega)]
        refine br_intro (fun h4 => ?_) (fun h4 => ?_) <;> (rw [h4]; conv => whnf)
        · have h4' := of_decide_eq_true h4
          rw [if_pos (by omega)] at g6
          refine Nx.intro ⟨(j + 1, a + p1, p2), by omega, by dsimp only; omega, by dsimp only; omega, by dsimp only; omega, by dsimp only; omega, g6⟩ (by dsimp only; omega) ?_
          refine Wk.intro [] rfl (fun p hp => by cases hp) ⟨.same rfl trivial, .same rfl trivial, .same rfl (by exact rfl), .same rfl trivial, .same rfl trivial, .same (congrArg i64 (by rw [wrap_i64 _ (by omega) (by omega)]; rfl)) trivial, trivial⟩ ⟨⟨rfl, .inl ⟨rfl, it_row _ _ _ _ _⟩⟩, trivial⟩
        · have h4' := of_decide_eq_false h4
          rw [if_neg (by omega)] at g6
          refine Nx.intro ⟨(j + 1, a + p1, d), by omega, by dsimp only; omega, by dsimp only; omega, by dsimp only; omega, by dsimp only; omega, g6⟩ (by dsimp only; omega) ?_
          refine Wk.intro [] rfl (fun p hp => by cases hp) ⟨.same rfl trivial, .same rfl trivial, .same rfl (by exact rfl), .same rfl trivial, .same rfl trivial, .same (congrArg i64 (by rw [wrap_i64 _ (by omega) (by omega)]; rfl)) trivial, trivial⟩ ⟨⟨rfl, .inl ⟨rfl, it_row _ _ _ _ _⟩⟩, trivial⟩
      · have h3' := of_decide_eq_false h3
        rw [if_neg (fun h => h3' h.2)] at g6
        rw [g6]
        exact ⟨.inl rfl, .inl rfl, trivial⟩
    · have h2' := of_decide_eq_false h2
      rw [if_neg (fun h => h2' h.1)] at g6
      rw [g6]
      exact ⟨.inl rfl, .inl rfl, trivial⟩
  · obtain rfl : j = l.length := by have := of_decide_eq_false h1; omega
    rw [List.drop_length, itNL_nil] at g6
    rw [g6]
    exact ⟨.inl rfl, .inl rfl, trivial⟩
theorem items_law : ∀ i : It, ItmOk i
  | .mk k n s l =>
    have ih : ∀ i ∈ l, ItmOk i := fun i hi => items_law i
    items_mk k n s l ih
termination_by i => SizeOf.sizeOf i
decreasing_by
  have := List.sizeOf_lt_of_mem hi
  simp only [It.mk.sizeOf_spec]
  omega
end Go.AW.Wir
