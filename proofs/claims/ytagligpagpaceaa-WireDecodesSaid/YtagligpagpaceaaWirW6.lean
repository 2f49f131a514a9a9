import Derived.Test.YtagligpagpaceaaWirW5
/- The wire: what an item becomes, walked. -/
set_option linter.unusedVariables false
set_option linter.unusedSimpArgs false
namespace Go.AW.Wir
open Go Go.AW Go.Proofs
set_option maxRecDepth 10000
set_option pp.maxSteps 60

abbrev lfM (left : Int) : Mem := [(0, .own 1 [[i64 left]])]
theorem lf_in {m : Mem} {j : Nat} {left : Int} (h : m.get j = some (.own 1 [[i64 left]])) : memIn (asIn [j] 0) m (lfM left) :=
  ⟨⟨rfl, h, domB_flat _ (one_flat left)⟩, trivial⟩
theorem lf_out (j id : Nat) (left : Int) : memOut (asIn ([j] ++ [id]) 0) (lfM left) [(j, .own 1 [[i64 left]])] :=
  ⟨⟨rfl, rfl, renB_flat _ (one_flat left), domB_flat _ (one_flat left)⟩, trivial⟩
theorem lf_keep (left : Int) {m : Mem} (h : m.get 0 = some (.own 1 [[i64 left]])) : memKeep [(0, 0)] m (lfM left) :=
  ⟨⟨0, _, rfl, rfl, h, renB_flat _ (one_flat left), domB_flat _ (one_flat left)⟩, trivial⟩

abbrev RLO : List Nat := [2000001, 1000000 + 24, 3000000 + 24]
def OfOk (i : It) : Prop := ∀ deep left : Int, 1 ≤ deep → deep ≤ 13 → 0 ≤ left → left ≤ 4096 → inI i → okc i deep left →
  FCm Try.prog 24 [itT i, i64 deep, .ptr 0 0 0] (lfM left) 1 (vT (vI i)) (lfM (left - nI i))
def OfNo (i : It) : Prop := ∀ deep left : Int, 1 ≤ deep → deep ≤ 13 → 0 ≤ left → left ≤ 4096 → inI i → ¬ okc i deep left →
  FCx Try.prog 24 [itT i, i64 deep, .ptr 0 0 0] (lfM left) 1 (flt 3)

theorem nL_len : ∀ l : List It, l.length ≤ nL l
  | [] => Nat.zero_le _
  | i :: r => by
    rw [nL, List.length_cons]
    have := nI_pos i
    have := nL_len r
    omega
theorem inIs_mem : ∀ {l : List It} {i : It}, inIs l → i ∈ l → inI i
  | w :: r, i, h, hm => by
    rw [inIs] at h
    rcases List.mem_cons.1 hm with rfl | hm
    · exact h.1
    · exact inIs_mem h.2 hm
theorem empty_eq (l : List UInt8) : (ByteArray.toList ⟨l.toArray⟩ == ByteArray.toList ⟨#[]⟩) = l.isEmpty := by
  rw [ByteArray.toList_eq, ByteArray.toList_eq, Bool.eq_iff_iff, beq_iff_eq, List.isEmpty_iff]
theorem it_row (x : Nat) (k n : Int) (s : List UInt8) (l : List It) : blkLt x (.own 4 [[i64 k, i64 n, str s, .sl none 4 (itR l)]]) := by
  intro row hr c hc
  obtain rfl := List.mem_singleton.1 hr
  simp only [List.mem_cons, List.mem_nil_iff, or_false] at hc
  rcases hc with rfl | rfl | rfl | rfl <;> trivial
theorem lf_lt (x : Nat) (v : Int) : blkLt x (.own 1 [[i64 v]]) := by
  intro row hr c hc
  obtain rfl := List.mem_singleton.1 hr
  obtain rfl := List.mem_singleton.1 hc
  trivial
theorem take_nL {l : List It} {j : Nat} (hj : j < l.length) : nL (l.take (j + 1)) = nL (l.take j) + nI l[j] := by
  rw [List.take_add_one, List.getElem?_eq_getElem hj, nL_append]
  show _ + nL [l[j]] = _
  rw [nL, nL]; omega
theorem take_vR {l : List It} {j : Nat} (hj : j < l.length) : vR (vL (l.take (j + 1))) = vR (vL (l.take j)) ++ [[vT (vI l[j])]] := by
  rw [vR_map, vR_map, vL_map, vL_map, List.take_add_one, List.getElem?_eq_getElem hj, List.map_append, List.map_append]
  rfl
theorem vLt_len {l : List It} {j : Nat} (hj : j ≤ l.length) : (vR (vL (l.take j))).length = j := by
  rw [vR_len, vL_map, List.length_map, List.length_take, Nat.min_eq_left hj]
theorem tk_nL (l : List It) {j : Nat} (hj : j ≤ l.length) : j ≤ nL (l.take j) := by
  have := nL_len (l.take j)
  rw [List.length_take, Nat.min_eq_left hj] at this
  exact this
theorem bq {x y : Int} (h : x = y) : (x == y) = true := beq_iff_eq.2 h
theorem bn {x y : Int} (h : ¬ x = y) : (x == y) = false := beq_eq_false_iff_ne.2 h
theorem bl {l : List It} (h : l ≠ []) : (((itR l).length : Int) == 0) = false := bn (by rw [itR_len]; have := List.length_pos_iff.2 h; omega)
theorem be {s : List UInt8} (h : s ≠ []) : (ByteArray.toList ⟨s.toArray⟩ == ByteArray.toList ⟨#[]⟩) = false := by
  rw [empty_eq]; cases s with
  | nil => exact absurd rfl h
  | cons => rfl

theorem qq {x y : Int} (h : x = y) : (x != y) = false := by rw [bne, bq h]; rfl
theorem qn {x y : Int} (h : ¬ x = y) : (x != y) = true := by rw [bne, bn h]; rfl
theorem nbe {s : List UInt8} (h : s ≠ []) : (!(ByteArray.toList ⟨s.toArray⟩ == ByteArray.toList ⟨#[]⟩)) = true := by rw [be h]; rfl
theorem of_num (k n : Int) (s : List UInt8) (l : List It) (hA : k = 1 ∧ s = [] ∧ l = []) : OfOk (.mk k n s l) := by
  intro deep left hd1 hd hl0 hl1 hin ho
  rw [okc_mk] at ho
  obtain ⟨ho1, ho2, ho3, ho4⟩ := ho
  rw [vI, if_pos hA, vT, nI]
  obtain ⟨hk1, hs, hl⟩ := hA
  refine FCm_of_awp (fn := Try.f24) (c := bodyC Try.f24) Try.func24 rfl (of_decide_eq_true rfl) RLO rfl ?_
  rw [show itT (.mk k n s l) = .agg [i64 k, i64 n, str s, .sl none 4 (itR l)] from congrArg T.agg (itC_eq _)]
  conv => whnf
  rw [wrap_i64 (left - 1) (by omega) (by omega), show decide (left - 1 < 0) = false from decide_eq_false (by omega)]
  conv => whnf
  rw [show decide (deep > 12) = false from decide_eq_false (by omega)]
  conv => whnf
  rw [bn (show ¬ k = 2 by omega)]
  conv => whnf
  rw [bq hk1]
  conv => whnf
  rw [show (ByteArray.toList ⟨s.toArray⟩ == ByteArray.toList ⟨#[]⟩) = true by rw [empty_eq, hs]; rfl]
  conv => whnf
  rw [show (((itR l).length : Int) == 0) = true from bq (by rw [itR_len, hl]; rfl)]
  conv => whnf
  refine ⟨[(0, 0)], ⟨rfl, rfl, rfl⟩, .inl rfl, lf_keep _ ?_⟩
  show some (Blk.own 1 [[i64 (left - 1)]]) = _
  rw [hl, nL, show left - ((1 + 0 : Nat) : Int) = left - 1 by omega]
theorem of_txt (s : List UInt8) : OfOk (.mk 2 0 s []) := by
  intro deep left hd1 hd hl0 hl1 hin ho
  rw [okc_mk] at ho
  obtain ⟨ho1, ho2, ho3, ho4⟩ := ho
  rw [vI, if_neg (by rintro ⟨h, _⟩; cases h), if_pos ⟨rfl, rfl, rfl⟩, vT, nI, nL]
  refine FCm_of_awp (fn := Try.f24) (c := bodyC Try.f24) Try.func24 rfl (of_decide_eq_true rfl) RLO rfl ?_
  rw [show itT (.mk 2 0 s []) = .agg [i64 2, i64 0, str s, .sl none 4 []] from congrArg T.agg (itC_eq _)]
  conv => whnf
  rw [wrap_i64 (left - 1) (by omega) (by omega), show decide (left - 1 < 0) = false from decide_eq_false (by omega)]
  conv => whnf
  rw [show decide (deep > 12) = false from decide_eq_false (by omega)]
  conv => whnf
  rw [show decide (((ByteArray.size ⟨s.toArray⟩ : Nat) : Int) > 4096) = false from decide_eq_false (by
    have e : (⟨s.toArray⟩ : ByteArray).size = s.length := List.size_toArray ..
    rw [e]; omega)]
  conv => whnf
  exact ⟨[(0, 0)], ⟨rfl, rfl, rfl⟩, .inl rfl, lf_keep _ rfl⟩

theorem of_lst (k n : Int) (s : List UInt8) (l : List It) (ih : ∀ i ∈ l, OfOk i ∧ OfNo i) (hA : ¬ (k = 1 ∧ s = [] ∧ l = [])) (hB : ¬ (k = 2 ∧ n = 0 ∧ l = [])) (hC : k = 3 ∧ n = 0 ∧ s = []) : OfOk (.mk k n s l) := by
  intro deep left hd1 hd hl0 hl1 hin ho
  rw [okc_mk] at ho
  rw [inI] at hin
  obtain ⟨ho1, ho2, ho3, ho4⟩ := ho
  rw [vI, if_neg hA, if_neg hB, if_neg (fun h => h.elim (fun h => h hC.1) (fun h => h.elim (fun h => h hC.2.1) (fun h => h hC.2.2))), vT, nI]
  refine FCm_of_awp (fn := Try.f24) (c := bodyC Try.f24) Try.func24 rfl (of_decide_eq_true rfl) RLO rfl ?_
  rw [show itT (.mk k n s l) = .agg [i64 k, i64 n, str s, .sl none 4 (itR l)] from congrArg T.agg (itC_eq _)]
  conv => whnf
  rw [wrap_i64 (left - 1) (by omega) (by omega), show decide (left - 1 < 0) = false from decide_eq_false (by omega)]
  conv => whnf
  rw [show decide (deep > 12) = false from decide_eq_false (by omega)]
  conv => whnf
  rw [bn (show ¬ k = 2 by omega)]
  conv => whnf
  rw [bn (show ¬ k = 1 by omega)]
  conv => whnf
  rw [bn (show ¬ k = 2 by omega)]
  conv => whnf
  refine loop_intro (fun y : { j : Nat // j ≤ l.length ∧ 0 ≤ left - 1 - (nL (l.take j) : Int) ∧ okl (l.drop j) (deep + 1) (left - 1 - (nL (l.take j) : Int)) } =>
    ⟨[(1, i64 deep), (2, .ptr 0 0 0), (3, .ptr 1 0 0), (7, .sl (some 2) 1 (vR (vL (l.take y.1)))), (74, .sl none 4 (itR l)), (75, i64 (l.length : Nat)), (76, i64 (y.1 : Nat))],
      [(0, .own 1 [[i64 (left - 1 - (nL (l.take y.1) : Int))]]), (1, .own 4 [[i64 k, i64 n, str s, .sl none 4 (itR l)]]), (2, .tok 1 y.1)], 106, 3, RLO⟩) (fun y => l.length - y.1) ⟨0, Nat.zero_le _, by rw [List.take_zero, nL]; omega, by rw [List.take_zero, nL, List.drop_zero, show left - 1 - ((0 : Nat) : Int) = left - 1 by omega]; exact ho4⟩ ?_ ?_
  · refine Wk.intro [] rfl (fun p hp => by cases hp) ⟨.same rfl trivial, .same rfl (by exact rfl), .same rfl (by exact rfl), .same ?_ (by exact rfl), .same rfl trivial, .same (congrArg i64 (by rw [itR_len])) trivial, .same rfl trivial, trivial⟩
      ⟨⟨rfl, .inl ⟨?_, lf_lt _ _⟩⟩, ⟨rfl, .inl ⟨rfl, it_row _ _ _ _ _⟩⟩, ⟨rfl, .inl ⟨rfl, trivial⟩⟩, trivial⟩
    · show T.sl (some 2) 1 [] = _
      rw [List.take_zero, vL, vR]
    · show some (Blk.own 1 [[i64 (left - 1)]]) = _
      rw [List.take_zero, nL, show left - 1 - ((0 : Nat) : Int) = left - 1 by omega]
  rintro ⟨j, g1, g2, g3⟩
  dsimp only
  conv => whnf
  refine br_intro (fun h1 => ?_) (fun h1 => ?_) <;> (rw [h1]; conv => whnf)
  · have hj : j < l.length := by have := of_decide_eq_true h1; omega
    have hmem : l[j] ∈ l := List.getElem_mem hj
    have hjn := tk_nL l g1
    have hlen := vLt_len g1
    have htn := take_nL hj
    have htv := take_vR hj
    refine ⟨by omega, nthK_intro (itR_get (List.getElem?_eq_getElem hj)) ?_⟩
    conv => whnf
    rw [wrap_i64 (deep + 1) (by omega) (by omega)]
    have hdr : l.drop j = l[j] :: l.drop (j + 1) := List.drop_eq_getElem_cons hj
    rw [hdr] at g3
    rw [okl_cons] at g3
    have hii := inIs_mem hin.2 hmem
    generalize hlj : l[j] = i at g3 hmem htn htv hii ⊢
    · obtain ⟨g4, g3⟩ := g3
      have hc := (ih i hmem).1 (deep + 1) (left - 1 - (nL (l.take j) : Int)) (by omega) (by omega) g2 (by omega) hii g4
      have hni : ((nL (l.take j) : Nat) : Int) + (nI i : Int) = ((nL (l.take (j + 1)) : Nat) : Int) := by omega
      have hnn : left - 1 - (nL (l.take j) : Int) - (nI i : Int) = left - 1 - (nL (l.take (j + 1)) : Int) := by omega
      have hg4 := g4.1
      rw [hnn] at hc g3
      rcases vT_form (vI i) with ⟨ea, eb, e⟩ | ⟨ea, eb, e⟩ <;> rw [e] at hc htv <;>
        refine .inl ⟨[0], _, _, _, _, lfM (left - 1 - (nL (l.take (j + 1)) : Int)), _, hc, ⟨rfl, ⟨rfl, trivial⟩, rfl, rfl, lf_in rfl, rfl, rfl, lf_out 0 _ _⟩, ?_⟩ <;> (conv => whnf) <;>
        (have nb : (Try.prog.types[20]).bytes = 16 := rfl) <;>
        (refine ⟨hlen, by rw [hlen, nb]; show (j + 1) * 16 ≤ _; omega, by rw [hlen]; show j + 1 ≤ _; omega, ?_⟩) <;>
        (conv => whnf) <;>
        (refine Nx.intro ⟨j + 1, by omega, by omega, g3⟩ (by dsimp only; omega) ?_) <;>
        (refine Wk.intro [] rfl (fun p hp => by cases hp) ⟨.same rfl trivial, .same rfl (by exact rfl), .same rfl (by exact rfl), .same (congrArg (T.sl (some 2) 1) htv.symm) (by exact rfl), .same rfl trivial, .same rfl trivial, .same (congrArg i64 ?_) trivial, trivial⟩
          ⟨⟨rfl, .inl ⟨rfl, lf_lt _ _⟩⟩, ⟨rfl, .inl ⟨rfl, it_row _ _ _ _ _⟩⟩, ⟨rfl, .inl ⟨?_, trivial⟩⟩, trivial⟩) <;>
        first
        | (rw [wrap_i64 _ (by omega) (by omega)]; rfl)
        | (show some (Blk.tok 1 ((vR (vL (l.take j))).length + 1)) = _
           rw [hlen])
  · obtain rfl : j = l.length := by have := of_decide_eq_false h1; omega
    rw [List.take_length]
    rw [qq (show k = 3 by omega)]
    conv => whnf
    rw [qq (show n = 0 by omega)]
    conv => whnf
    rw [show (!(ByteArray.toList ⟨s.toArray⟩ == ByteArray.toList ⟨#[]⟩)) = false by rw [empty_eq, hC.2.2]; rfl]
    conv => whnf
    exact ⟨[(0, 0)], ⟨rfl, rfl, rfl⟩, .inl rfl, lf_keep _ (congrArg (fun z => some (Blk.own 1 [[i64 z]])) (show left - 1 - (nL l : Int) = left - ((1 + nL l : Nat) : Int) by omega))⟩
theorem of_bad (k n : Int) (s : List UInt8) (l : List It) (ih : ∀ i ∈ l, OfOk i ∧ OfNo i) (hA : ¬ (k = 1 ∧ s = [] ∧ l = [])) (hB : ¬ (k = 2 ∧ n = 0 ∧ l = [])) (hC : k ≠ 3 ∨ n ≠ 0 ∨ s ≠ []) : OfOk (.mk k n s l) := by
  intro deep left hd1 hd hl0 hl1 hin ho
  rw [okc_mk] at ho
  rw [inI] at hin
  obtain ⟨ho1, ho2, ho3, ho4⟩ := ho
  rw [vI, if_neg hA, if_neg hB, if_pos hC, vT, nI]
  refine FCm_of_awp (fn := Try.f24) (c := bodyC Try.f24) Try.func24 rfl (of_decide_eq_true rfl) RLO rfl ?_
  rw [show itT (.mk k n s l) = .agg [i64 k, i64 n, str s, .sl none 4 (itR l)] from congrArg T.agg (itC_eq _)]
  conv => whnf
  rw [wrap_i64 (left - 1) (by omega) (by omega), show decide (left - 1 < 0) = false from decide_eq_false (by omega)]
  conv => whnf
  rw [show decide (deep > 12) = false from decide_eq_false (by omega)]
  conv => whnf
  by_cases hk2 : k = 2
  · rw [bq hk2]
    conv => whnf
    rw [show decide (((ByteArray.size ⟨s.toArray⟩ : Nat) : Int) > 4096) = false from decide_eq_false (by
      have e : (⟨s.toArray⟩ : ByteArray).size = s.length := List.size_toArray ..
      rw [e]; omega)]
    conv => whnf
    rw [bn (show ¬ k = 1 by omega)]
    conv => whnf
    rw [bq hk2]
    conv => whnf
    by_cases hn : n = 0
    · rw [bq hn]
      conv => whnf
      rw [bl (fun e => hB ⟨hk2, hn, e⟩)]
      conv => whnf
      refine loop_intro (fun y : { j : Nat // j ≤ l.length ∧ 0 ≤ left - 1 - (nL (l.take j) : Int) ∧ okl (l.drop j) (deep + 1) (left - 1 - (nL (l.take j) : Int)) } =>
        ⟨[(1, i64 deep), (2, .ptr 0 0 0), (3, .ptr 1 0 0), (7, .sl (some 2) 1 (vR (vL (l.take y.1)))), (74, .sl none 4 (itR l)), (75, i64 (l.length : Nat)), (76, i64 (y.1 : Nat))],
          [(0, .own 1 [[i64 (left - 1 - (nL (l.take y.1) : Int))]]), (1, .own 4 [[i64 k, i64 n, str s, .sl none 4 (itR l)]]), (2, .tok 1 y.1)], 106, 3, RLO⟩) (fun y => l.length - y.1) ⟨0, Nat.zero_le _, by rw [List.take_zero, nL]; omega, by rw [List.take_zero, nL, List.drop_zero, show left - 1 - ((0 : Nat) : Int) = left - 1 by omega]; exact ho4⟩ ?_ ?_
      · refine Wk.intro [] rfl (fun p hp => by cases hp) ⟨.same rfl trivial, .same rfl (by exact rfl), .same rfl (by exact rfl), .same ?_ (by exact rfl), .same rfl trivial, .same (congrArg i64 (by rw [itR_len])) trivial, .same rfl trivial, trivial⟩
          ⟨⟨rfl, .inl ⟨?_, lf_lt _ _⟩⟩, ⟨rfl, .inl ⟨rfl, it_row _ _ _ _ _⟩⟩, ⟨rfl, .inl ⟨rfl, trivial⟩⟩, trivial⟩
        · show T.sl (some 2) 1 [] = _
          rw [List.take_zero, vL, vR]
        · show some (Blk.own 1 [[i64 (left - 1)]]) = _
          rw [List.take_zero, nL, show left - 1 - ((0 : Nat) : Int) = left - 1 by omega]
      rintro ⟨j, g1, g2, g3⟩
      dsimp only
      conv => whnf
      refine br_intro (fun h1 => ?_) (fun h1 => ?_) <;> (rw [h1]; conv => whnf)
      · have hj : j < l.length := by have := of_decide_eq_true h1; omega
        have hmem : l[j] ∈ l := List.getElem_mem hj
        have hjn := tk_nL l g1
        have hlen := vLt_len g1
        have htn := take_nL hj
        have htv := take_vR hj
        refine ⟨by omega, nthK_intro (itR_get (List.getElem?_eq_getElem hj)) ?_⟩
        conv => whnf
        rw [wrap_i64 (deep + 1) (by omega) (by omega)]
        have hdr : l.drop j = l[j] :: l.drop (j + 1) := List.drop_eq_getElem_cons hj
        rw [hdr] at g3
        rw [okl_cons] at g3
        have hii := inIs_mem hin.2 hmem
        generalize hlj : l[j] = i at g3 hmem htn htv hii ⊢
        · obtain ⟨g4, g3⟩ := g3
          have hc := (ih i hmem).1 (deep + 1) (left - 1 - (nL (l.take j) : Int)) (by omega) (by omega) g2 (by omega) hii g4
          have hni : ((nL (l.take j) : Nat) : Int) + (nI i : Int) = ((nL (l.take (j + 1)) : Nat) : Int) := by omega
          have hnn : left - 1 - (nL (l.take j) : Int) - (nI i : Int) = left - 1 - (nL (l.take (j + 1)) : Int) := by omega
          have hg4 := g4.1
          rw [hnn] at hc g3
          rcases vT_form (vI i) with ⟨ea, eb, e⟩ | ⟨ea, eb, e⟩ <;> rw [e] at hc htv <;>
            refine .inl ⟨[0], _, _, _, _, lfM (left - 1 - (nL (l.take (j + 1)) : Int)), _, hc, ⟨rfl, ⟨rfl, trivial⟩, rfl, rfl, lf_in rfl, rfl, rfl, lf_out 0 _ _⟩, ?_⟩ <;> (conv => whnf) <;>
            (have nb : (Try.prog.types[20]).bytes = 16 := rfl) <;>
            (refine ⟨hlen, by rw [hlen, nb]; show (j + 1) * 16 ≤ _; omega, by rw [hlen]; show j + 1 ≤ _; omega, ?_⟩) <;>
            (conv => whnf) <;>
            (refine Nx.intro ⟨j + 1, by omega, by omega, g3⟩ (by dsimp only; omega) ?_) <;>
            (refine Wk.intro [] rfl (fun p hp => by cases hp) ⟨.same rfl trivial, .same rfl (by exact rfl), .same rfl (by exact rfl), .same (congrArg (T.sl (some 2) 1) htv.symm) (by exact rfl), .same rfl trivial, .same rfl trivial, .same (congrArg i64 ?_) trivial, trivial⟩
              ⟨⟨rfl, .inl ⟨rfl, lf_lt _ _⟩⟩, ⟨rfl, .inl ⟨rfl, it_row _ _ _ _ _⟩⟩, ⟨rfl, .inl ⟨?_, trivial⟩⟩, trivial⟩) <;>
            first
            | (rw [wrap_i64 _ (by omega) (by omega)]; rfl)
            | (show some (Blk.tok 1 ((vR (vL (l.take j))).length + 1)) = _
               rw [hlen])
      · obtain rfl : j = l.length := by have := of_decide_eq_false h1; omega
        rw [List.take_length]
        by_cases hk3 : k = 3
        · rw [qq hk3]
          conv => whnf
          by_cases hn0 : n = 0
          · rw [qq hn0]
            conv => whnf
            rw [nbe (fun e => (hC.resolve_left (fun h => h hk3)).elim (fun h => h hn0) (fun h => h e))]
            conv => whnf
            exact ⟨[(0, 0)], ⟨rfl, rfl, rfl⟩, .inl rfl, lf_keep _ (congrArg (fun z => some (Blk.own 1 [[i64 z]])) (show left - 1 - (nL l : Int) = left - ((1 + nL l : Nat) : Int) by omega))⟩
          · rw [qn hn0]
            conv => whnf
            exact ⟨[(0, 0)], ⟨rfl, rfl, rfl⟩, .inl rfl, lf_keep _ (congrArg (fun z => some (Blk.own 1 [[i64 z]])) (show left - 1 - (nL l : Int) = left - ((1 + nL l : Nat) : Int) by omega))⟩
        · rw [qn hk3]
          conv => whnf
          exact ⟨[(0, 0)], ⟨rfl, rfl, rfl⟩, .inl rfl, lf_keep _ (congrArg (fun z => some (Blk.own 1 [[i64 z]])) (show left - 1 - (nL l : Int) = left - ((1 + nL l : Nat) : Int) by omega))⟩
    · rw [bn hn]
      conv => whnf
      refine loop_intro (fun y : { j : Nat // j ≤ l.length ∧ 0 ≤ left - 1 - (nL (l.take j) : Int) ∧ okl (l.drop j) (deep + 1) (left - 1 - (nL (l.take j) : Int)) } =>
        ⟨[(1, i64 deep), (2, .ptr 0 0 0), (3, .ptr 1 0 0), (7, .sl (some 2) 1 (vR (vL (l.take y.1)))), (74, .sl none 4 (itR l)), (75, i64 (l.length : Nat)), (76, i64 (y.1 : Nat))],
          [(0, .own 1 [[i64 (left - 1 - (nL (l.take y.1) : Int))]]), (1, .own 4 [[i64 k, i64 n, str s, .sl none 4 (itR l)]]), (2, .tok 1 y.1)], 106, 3, RLO⟩) (fun y => l.length - y.1) ⟨0, Nat.zero_le _, by rw [List.take_zero, nL]; omega, by rw [List.take_zero, nL, List.drop_zero, show left - 1 - ((0 : Nat) : Int) = left - 1 by omega]; exact ho4⟩ ?_ ?_
      · refine Wk.intro [] rfl (fun p hp => by cases hp) ⟨.same rfl trivial, .same rfl (by exact rfl), .same rfl (by exact rfl), .same ?_ (by exact rfl), .same rfl trivial, .same (congrArg i64 (by rw [itR_len])) trivial, .same rfl trivial, trivial⟩
          ⟨⟨rfl, .inl ⟨?_, lf_lt _ _⟩⟩, ⟨rfl, .inl ⟨rfl, it_row _ _ _ _ _⟩⟩, ⟨rfl, .inl ⟨rfl, trivial⟩⟩, trivial⟩
        · show T.sl (some 2) 1 [] = _
          rw [List.take_zero, vL, vR]
        · show some (Blk.own 1 [[i64 (left - 1)]]) = _
          rw [List.take_zero, nL, show left - 1 - ((0 : Nat) : Int) = left - 1 by omega]
      rintro ⟨j, g1, g2, g3⟩
      dsimp only
      conv => whnf
      refine br_intro (fun h1 => ?_) (fun h1 => ?_) <;> (rw [h1]; conv => whnf)
      · have hj : j < l.length := by have := of_decide_eq_true h1; omega
        have hmem : l[j] ∈ l := List.getElem_mem hj
        have hjn := tk_nL l g1
        have hlen := vLt_len g1
        have htn := take_nL hj
        have htv := take_vR hj
        refine ⟨by omega, nthK_intro (itR_get (List.getElem?_eq_getElem hj)) ?_⟩
        conv => whnf
        rw [wrap_i64 (deep + 1) (by omega) (by omega)]
        have hdr : l.drop j = l[j] :: l.drop (j + 1) := List.drop_eq_getElem_cons hj
        rw [hdr] at g3
        rw [okl_cons] at g3
        have hii := inIs_mem hin.2 hmem
        generalize hlj : l[j] = i at g3 hmem htn htv hii ⊢
        · obtain ⟨g4, g3⟩ := g3
          have hc := (ih i hmem).1 (deep + 1) (left - 1 - (nL (l.take j) : Int)) (by omega) (by omega) g2 (by omega) hii g4
          have hni : ((nL (l.take j) : Nat) : Int) + (nI i : Int) = ((nL (l.take (j + 1)) : Nat) : Int) := by omega
          have hnn : left - 1 - (nL (l.take j) : Int) - (nI i : Int) = left - 1 - (nL (l.take (j + 1)) : Int) := by omega
          have hg4 := g4.1
          rw [hnn] at hc g3
          rcases vT_form (vI i) with ⟨ea, eb, e⟩ | ⟨ea, eb, e⟩ <;> rw [e] at hc htv <;>
            refine .inl ⟨[0], _, _, _, _, lfM (left - 1 - (nL (l.take (j + 1)) : Int)), _, hc, ⟨rfl, ⟨rfl, trivial⟩, rfl, rfl, lf_in rfl, rfl, rfl, lf_out 0 _ _⟩, ?_⟩ <;> (conv => whnf) <;>
            (have nb : (Try.prog.types[20]).bytes = 16 := rfl) <;>
            (refine ⟨hlen, by rw [hlen, nb]; show (j + 1) * 16 ≤ _; omega, by rw [hlen]; show j + 1 ≤ _; omega, ?_⟩) <;>
            (conv => whnf) <;>
            (refine Nx.intro ⟨j + 1, by omega, by omega, g3⟩ (by dsimp only; omega) ?_) <;>
            (refine Wk.intro [] rfl (fun p hp => by cases hp) ⟨.same rfl trivial, .same rfl (by exact rfl), .same rfl (by exact rfl), .same (congrArg (T.sl (some 2) 1) htv.symm) (by exact rfl), .same rfl trivial, .same rfl trivial, .same (congrArg i64 ?_) trivial, trivial⟩
              ⟨⟨rfl, .inl ⟨rfl, lf_lt _ _⟩⟩, ⟨rfl, .inl ⟨rfl, it_row _ _ _ _ _⟩⟩, ⟨rfl, .inl ⟨?_, trivial⟩⟩, trivial⟩) <;>
            first
            | (rw [wrap_i64 _ (by omega) (by omega)]; rfl)
            | (show some (Blk.tok 1 ((vR (vL (l.take j))).length + 1)) = _
               rw [hlen])
      · obtain rfl : j = l.length := by have := of_decide_eq_false h1; omega
        rw [List.take_length]
        by_cases hk3 : k = 3
        · rw [qq hk3]
          conv => whnf
          by_cases hn0 : n = 0
          · rw [qq hn0]
            conv => whnf
            rw [nbe (fun e => (hC.resolve_left (fun h => h hk3)).elim (fun h => h hn0) (fun h => h e))]
            conv => whnf
            exact ⟨[(0, 0)], ⟨rfl, rfl, rfl⟩, .inl rfl, lf_keep _ (congrArg (fun z => some (Blk.own 1 [[i64 z]])) (show left - 1 - (nL l : Int) = left - ((1 + nL l : Nat) : Int) by omega))⟩
          · rw [qn hn0]
            conv => whnf
            exact ⟨[(0, 0)], ⟨rfl, rfl, rfl⟩, .inl rfl, lf_keep _ (congrArg (fun z => some (Blk.own 1 [[i64 z]])) (show left - 1 - (nL l : Int) = left - ((1 + nL l : Nat) : Int) by omega))⟩
        · rw [qn hk3]
          conv => whnf
          exact ⟨[(0, 0)], ⟨rfl, rfl, rfl⟩, .inl rfl, lf_keep _ (congrArg (fun z => some (Blk.own 1 [[i64 z]])) (show left - 1 - (nL l : Int) = left - ((1 + nL l : Nat) : Int) by omega))⟩
  · rw [bn hk2]
    conv => whnf
    by_cases hk1 : k = 1
    · rw [bq hk1]
      conv => whnf
      by_cases hs : s = []
      · rw [show (ByteArray.toList ⟨s.toArray⟩ == ByteArray.toList ⟨#[]⟩) = true by rw [empty_eq, hs]; rfl]
        conv => whnf
        rw [bl (fun e => hA ⟨hk1, hs, e⟩)]
        conv => whnf
        rw [bn hk2]
        conv => whnf
        refine loop_intro (fun y : { j : Nat // j ≤ l.length ∧ 0 ≤ left - 1 - (nL (l.take j) : Int) ∧ okl (l.drop j) (deep + 1) (left - 1 - (nL (l.take j) : Int)) } =>
          ⟨[(1, i64 deep), (2, .ptr 0 0 0), (3, .ptr 1 0 0), (7, .sl (some 2) 1 (vR (vL (l.take y.1)))), (74, .sl none 4 (itR l)), (75, i64 (l.length : Nat)), (76, i64 (y.1 : Nat))],
            [(0, .own 1 [[i64 (left - 1 - (nL (l.take y.1) : Int))]]), (1, .own 4 [[i64 k, i64 n, str s, .sl none 4 (itR l)]]), (2, .tok 1 y.1)], 106, 3, RLO⟩) (fun y => l.length - y.1) ⟨0, Nat.zero_le _, by rw [List.take_zero, nL]; omega, by rw [List.take_zero, nL, List.drop_zero, show left - 1 - ((0 : Nat) : Int) = left - 1 by omega]; exact ho4⟩ ?_ ?_
        · refine Wk.intro [] rfl (fun p hp => by cases hp) ⟨.same rfl trivial, .same rfl (by exact rfl), .same rfl (by exact rfl), .same ?_ (by exact rfl), .same rfl trivial, .same (congrArg i64 (by rw [itR_len])) trivial, .same rfl trivial, trivial⟩
            ⟨⟨rfl, .inl ⟨?_, lf_lt _ _⟩⟩, ⟨rfl, .inl ⟨rfl, it_row _ _ _ _ _⟩⟩, ⟨rfl, .inl ⟨rfl, trivial⟩⟩, trivial⟩
          · show T.sl (some 2) 1 [] = _
            rw [List.take_zero, vL, vR]
          · show some (Blk.own 1 [[i64 (left - 1)]]) = _
            rw [List.take_zero, nL, show left - 1 - ((0 : Nat) : Int) = left - 1 by omega]
        rintro ⟨j, g1, g2, g3⟩
        dsimp only
        conv => whnf
        refine br_intro (fun h1 => ?_) (fun h1 => ?_) <;> (rw [h1]; conv => whnf)
        · have hj : j < l.length := by have := of_decide_eq_true h1; omega
          have hmem : l[j] ∈ l := List.getElem_mem hj
          have hjn := tk_nL l g1
          have hlen := vLt_len g1
          have htn := take_nL hj
          have htv := take_vR hj
          refine ⟨by omega, nthK_intro (itR_get (List.getElem?_eq_getElem hj)) ?_⟩
          conv => whnf
          rw [wrap_i64 (deep + 1) (by omega) (by omega)]
          have hdr : l.drop j = l[j] :: l.drop (j + 1) := List.drop_eq_getElem_cons hj
          rw [hdr] at g3
          rw [okl_cons] at g3
          have hii := inIs_mem hin.2 hmem
          generalize hlj : l[j] = i at g3 hmem htn htv hii ⊢
          · obtain ⟨g4, g3⟩ := g3
            have hc := (ih i hmem).1 (deep + 1) (left - 1 - (nL (l.take j) : Int)) (by omega) (by omega) g2 (by omega) hii g4
            have hni : ((nL (l.take j) : Nat) : Int) + (nI i : Int) = ((nL (l.take (j + 1)) : Nat) : Int) := by omega
            have hnn : left - 1 - (nL (l.take j) : Int) - (nI i : Int) = left - 1 - (nL (l.take (j + 1)) : Int) := by omega
            have hg4 := g4.1
            rw [hnn] at hc g3
            rcases vT_form (vI i) with ⟨ea, eb, e⟩ | ⟨ea, eb, e⟩ <;> rw [e] at hc htv <;>
              refine .inl ⟨[0], _, _, _, _, lfM (left - 1 - (nL (l.take (j + 1)) : Int)), _, hc, ⟨rfl, ⟨rfl, trivial⟩, rfl, rfl, lf_in rfl, rfl, rfl, lf_out 0 _ _⟩, ?_⟩ <;> (conv => whnf) <;>
              (have nb : (Try.prog.types[20]).bytes = 16 := rfl) <;>
              (refine ⟨hlen, by rw [hlen, nb]; show (j + 1) * 16 ≤ _; omega, by rw [hlen]; show j + 1 ≤ _; omega, ?_⟩) <;>
              (conv => whnf) <;>
              (refine Nx.intro ⟨j + 1, by omega, by omega, g3⟩ (by dsimp only; omega) ?_) <;>
              (refine Wk.intro [] rfl (fun p hp => by cases hp) ⟨.same rfl trivial, .same rfl (by exact rfl), .same rfl (by exact rfl), .same (congrArg (T.sl (some 2) 1) htv.symm) (by exact rfl), .same rfl trivial, .same rfl trivial, .same (congrArg i64 ?_) trivial, trivial⟩
                ⟨⟨rfl, .inl ⟨rfl, lf_lt _ _⟩⟩, ⟨rfl, .inl ⟨rfl, it_row _ _ _ _ _⟩⟩, ⟨rfl, .inl ⟨?_, trivial⟩⟩, trivial⟩) <;>
              first
              | (rw [wrap_i64 _ (by omega) (by omega)]; rfl)
              | (show some (Blk.tok 1 ((vR (vL (l.take j))).length + 1)) = _
                 rw [hlen])
        · obtain rfl : j = l.length := by have := of_decide_eq_false h1; omega
          rw [List.take_length]
          by_cases hk3 : k = 3
          · rw [qq hk3]
            conv => whnf
            by_cases hn0 : n = 0
            · rw [qq hn0]
              conv => whnf
              rw [nbe (fun e => (hC.resolve_left (fun h => h hk3)).elim (fun h => h hn0) (fun h => h e))]
              conv => whnf
              exact ⟨[(0, 0)], ⟨rfl, rfl, rfl⟩, .inl rfl, lf_keep _ (congrArg (fun z => some (Blk.own 1 [[i64 z]])) (show left - 1 - (nL l : Int) = left - ((1 + nL l : Nat) : Int) by omega))⟩
            · rw [qn hn0]
              conv => whnf
              exact ⟨[(0, 0)], ⟨rfl, rfl, rfl⟩, .inl rfl, lf_keep _ (congrArg (fun z => some (Blk.own 1 [[i64 z]])) (show left - 1 - (nL l : Int) = left - ((1 + nL l : Nat) : Int) by omega))⟩
          · rw [qn hk3]
            conv => whnf
            exact ⟨[(0, 0)], ⟨rfl, rfl, rfl⟩, .inl rfl, lf_keep _ (congrArg (fun z => some (Blk.own 1 [[i64 z]])) (show left - 1 - (nL l : Int) = left - ((1 + nL l : Nat) : Int) by omega))⟩
      · rw [be hs]
        conv => whnf
        rw [bn hk2]
        conv => whnf
        refine loop_intro (fun y : { j : Nat // j ≤ l.length ∧ 0 ≤ left - 1 - (nL (l.take j) : Int) ∧ okl (l.drop j) (deep + 1) (left - 1 - (nL (l.take j) : Int)) } =>
          ⟨[(1, i64 deep), (2, .ptr 0 0 0), (3, .ptr 1 0 0), (7, .sl (some 2) 1 (vR (vL (l.take y.1)))), (74, .sl none 4 (itR l)), (75, i64 (l.length : Nat)), (76, i64 (y.1 : Nat))],
            [(0, .own 1 [[i64 (left - 1 - (nL (l.take y.1) : Int))]]), (1, .own 4 [[i64 k, i64 n, str s, .sl none 4 (itR l)]]), (2, .tok 1 y.1)], 106, 3, RLO⟩) (fun y => l.length - y.1) ⟨0, Nat.zero_le _, by rw [List.take_zero, nL]; omega, by rw [List.take_zero, nL, List.drop_zero, show left - 1 - ((0 : Nat) : Int) = left - 1 by omega]; exact ho4⟩ ?_ ?_
        · refine Wk.intro [] rfl (fun p hp => by cases hp) ⟨.same rfl trivial, .same rfl (by exact rfl), .same rfl (by exact rfl), .same ?_ (by exact rfl), .same rfl trivial, .same (congrArg i64 (by rw [itR_len])) trivial, .same rfl trivial, trivial⟩
            ⟨⟨rfl, .inl ⟨?_, lf_lt _ _⟩⟩, ⟨rfl, .inl ⟨rfl, it_row _ _ _ _ _⟩⟩, ⟨rfl, .inl ⟨rfl, trivial⟩⟩, trivial⟩
          · show T.sl (some 2) 1 [] = _
            rw [List.take_zero, vL, vR]
          · show some (Blk.own 1 [[i64 (left - 1)]]) = _
            rw [List.take_zero, nL, show left - 1 - ((0 : Nat) : Int) = left - 1 by omega]
        rintro ⟨j, g1, g2, g3⟩
        dsimp only
        conv => whnf
        refine br_intro (fun h1 => ?_) (fun h1 => ?_) <;> (rw [h1]; conv => whnf)
        · have hj : j < l.length := by have := of_decide_eq_true h1; omega
          have hmem : l[j] ∈ l := List.getElem_mem hj
          have hjn := tk_nL l g1
          have hlen := vLt_len g1
          have htn := take_nL hj
          have htv := take_vR hj
          refine ⟨by omega, nthK_intro (itR_get (List.getElem?_eq_getElem hj)) ?_⟩
          conv => whnf
          rw [wrap_i64 (deep + 1) (by omega) (by omega)]
          have hdr : l.drop j = l[j] :: l.drop (j + 1) := List.drop_eq_getElem_cons hj
          rw [hdr] at g3
          rw [okl_cons] at g3
          have hii := inIs_mem hin.2 hmem
          generalize hlj : l[j] = i at g3 hmem htn htv hii ⊢
          · obtain ⟨g4, g3⟩ := g3
            have hc := (ih i hmem).1 (deep + 1) (left - 1 - (nL (l.take j) : Int)) (by omega) (by omega) g2 (by omega) hii g4
            have hni : ((nL (l.take j) : Nat) : Int) + (nI i : Int) = ((nL (l.take (j + 1)) : Nat) : Int) := by omega
            have hnn : left - 1 - (nL (l.take j) : Int) - (nI i : Int) = left - 1 - (nL (l.take (j + 1)) : Int) := by omega
            have hg4 := g4.1
            rw [hnn] at hc g3
            rcases vT_form (vI i) with ⟨ea, eb, e⟩ | ⟨ea, eb, e⟩ <;> rw [e] at hc htv <;>
              refine .inl ⟨[0], _, _, _, _, lfM (left - 1 - (nL (l.take (j + 1)) : Int)), _, hc, ⟨rfl, ⟨rfl, trivial⟩, rfl, rfl, lf_in rfl, rfl, rfl, lf_out 0 _ _⟩, ?_⟩ <;> (conv => whnf) <;>
              (have nb : (Try.prog.types[20]).bytes = 16 := rfl) <;>
              (refine ⟨hlen, by rw [hlen, nb]; show (j + 1) * 16 ≤ _; omega, by rw [hlen]; show j + 1 ≤ _; omega, ?_⟩) <;>
              (conv => whnf) <;>
              (refine Nx.intro ⟨j + 1, by omega, by omega, g3⟩ (by dsimp only; omega) ?_) <;>
              (refine Wk.intro [] rfl (fun p hp => by cases hp) ⟨.same rfl trivial, .same rfl (by exact rfl), .same rfl (by exact rfl), .same (congrArg (T.sl (some 2) 1) htv.symm) (by exact rfl), .same rfl trivial, .same rfl trivial, .same (congrArg i64 ?_) trivial, trivial⟩
                ⟨⟨rfl, .inl ⟨rfl, lf_lt _ _⟩⟩, ⟨rfl, .inl ⟨rfl, it_row _ _ _ _ _⟩⟩, ⟨rfl, .inl ⟨?_, trivial⟩⟩, trivial⟩) <;>
              first
              | (rw [wrap_i64 _ (by omega) (by omega)]; rfl)
              | (show some (Blk.tok 1 ((vR (vL (l.take j))).length + 1)) = _
                 rw [hlen])
        · obtain rfl : j = l.length := by have := of_decide_eq_false h1; omega
          rw [List.take_length]
          by_cases hk3 : k = 3
          · rw [qq hk3]
            conv => whnf
            by_cases hn0 : n = 0
            · rw [qq hn0]
              conv => whnf
              rw [nbe (fun e => (hC.resolve_left (fun h => h hk3)).elim (fun h => h hn0) (fun h => h e))]
              conv => whnf
              exact ⟨[(0, 0)], ⟨rfl, rfl, rfl⟩, .inl rfl, lf_keep _ (congrArg (fun z => some (Blk.own 1 [[i64 z]])) (show left - 1 - (nL l : Int) = left - ((1 + nL l : Nat) : Int) by omega))⟩
            · rw [qn hn0]
              conv => whnf
              exact ⟨[(0, 0)], ⟨rfl, rfl, rfl⟩, .inl rfl, lf_keep _ (congrArg (fun z => some (Blk.own 1 [[i64 z]])) (show left - 1 - (nL l : Int) = left - ((1 + nL l : Nat) : Int) by omega))⟩
          · rw [qn hk3]
            conv => whnf
            exact ⟨[(0, 0)], ⟨rfl, rfl, rfl⟩, .inl rfl, lf_keep _ (congrArg (fun z => some (Blk.own 1 [[i64 z]])) (show left - 1 - (nL l : Int) = left - ((1 + nL l : Nat) : Int) by omega))⟩
    · rw [bn hk1]
      conv => whnf
      rw [bn hk2]
      conv => whnf
      refine loop_intro (fun y : { j : Nat // j ≤ l.length ∧ 0 ≤ left - 1 - (nL (l.take j) : Int) ∧ okl (l.drop j) (deep + 1) (left - 1 - (nL (l.take j) : Int)) } =>
        ⟨[(1, i64 deep), (2, .ptr 0 0 0), (3, .ptr 1 0 0), (7, .sl (some 2) 1 (vR (vL (l.take y.1)))), (74, .sl none 4 (itR l)), (75, i64 (l.length : Nat)), (76, i64 (y.1 : Nat))],
          [(0, .own 1 [[i64 (left - 1 - (nL (l.take y.1) : Int))]]), (1, .own 4 [[i64 k, i64 n, str s, .sl none 4 (itR l)]]), (2, .tok 1 y.1)], 106, 3, RLO⟩) (fun y => l.length - y.1) ⟨0, Nat.zero_le _, by rw [List.take_zero, nL]; omega, by rw [List.take_zero, nL, List.drop_zero, show left - 1 - ((0 : Nat) : Int) = left - 1 by omega]; exact ho4⟩ ?_ ?_
      · refine Wk.intro [] rfl (fun p hp => by cases hp) ⟨.same rfl trivial, .same rfl (by exact rfl), .same rfl (by exact rfl), .same ?_ (by exact rfl), .same rfl trivial, .same (congrArg i64 (by rw [itR_len])) trivial, .same rfl trivial, trivial⟩
          ⟨⟨rfl, .inl ⟨?_, lf_lt _ _⟩⟩, ⟨rfl, .inl ⟨rfl, it_row _ _ _ _ _⟩⟩, ⟨rfl, .inl ⟨rfl, trivial⟩⟩, trivial⟩
        · show T.sl (some 2) 1 [] = _
          rw [List.take_zero, vL, vR]
        · show some (Blk.own 1 [[i64 (left - 1)]]) = _
          rw [List.take_zero, nL, show left - 1 - ((0 : Nat) : Int) = left - 1 by omega]
      rintro ⟨j, g1, g2, g3⟩
      dsimp only
      conv => whnf
      refine br_intro (fun h1 => ?_) (fun h1 => ?_) <;> (rw [h1]; conv => whnf)
      · have hj : j < l.length := by have := of_decide_eq_true h1; omega
        have hmem : l[j] ∈ l := List.getElem_mem hj
        have hjn := tk_nL l g1
        have hlen := vLt_len g1
        have htn := take_nL hj
        have htv := take_vR hj
        refine ⟨by omega, nthK_intro (itR_get (List.getElem?_eq_getElem hj)) ?_⟩
        conv => whnf
        rw [wrap_i64 (deep + 1) (by omega) (by omega)]
        have hdr : l.drop j = l[j] :: l.drop (j + 1) := List.drop_eq_getElem_cons hj
        rw [hdr] at g3
        rw [okl_cons] at g3
        have hii := inIs_mem hin.2 hmem
        generalize hlj : l[j] = i at g3 hmem htn htv hii ⊢
        · obtain ⟨g4, g3⟩ := g3
          have hc := (ih i hmem).1 (deep + 1) (left - 1 - (nL (l.take j) : Int)) (by omega) (by omega) g2 (by omega) hii g4
          have hni : ((nL (l.take j) : Nat) : Int) + (nI i : Int) = ((nL (l.take (j + 1)) : Nat) : Int) := by omega
          have hnn : left - 1 - (nL (l.take j) : Int) - (nI i : Int) = left - 1 - (nL (l.take (j + 1)) : Int) := by omega
          have hg4 := g4.1
          rw [hnn] at hc g3
          rcases vT_form (vI i) with ⟨ea, eb, e⟩ | ⟨ea, eb, e⟩ <;> rw [e] at hc htv <;>
            refine .inl ⟨[0], _, _, _, _, lfM (left - 1 - (nL (l.take (j + 1)) : Int)), _, hc, ⟨rfl, ⟨rfl, trivial⟩, rfl, rfl, lf_in rfl, rfl, rfl, lf_out 0 _ _⟩, ?_⟩ <;> (conv => whnf) <;>
            (have nb : (Try.prog.types[20]).bytes = 16 := rfl) <;>
            (refine ⟨hlen, by rw [hlen, nb]; show (j + 1) * 16 ≤ _; omega, by rw [hlen]; show j + 1 ≤ _; omega, ?_⟩) <;>
            (conv => whnf) <;>
            (refine Nx.intro ⟨j + 1, by omega, by omega, g3⟩ (by dsimp only; omega) ?_) <;>
            (refine Wk.intro [] rfl (fun p hp => by cases hp) ⟨.same rfl trivial, .same rfl (by exact rfl), .same rfl (by exact rfl), .same (congrArg (T.sl (some 2) 1) htv.symm) (by exact rfl), .same rfl trivial, .same rfl trivial, .same (congrArg i64 ?_) trivial, trivial⟩
              ⟨⟨rfl, .inl ⟨rfl, lf_lt _ _⟩⟩, ⟨rfl, .inl ⟨rfl, it_row _ _ _ _ _⟩⟩, ⟨rfl, .inl ⟨?_, trivial⟩⟩, trivial⟩) <;>
            first
            | (rw [wrap_i64 _ (by omega) (by omega)]; rfl)
            | (show some (Blk.tok 1 ((vR (vL (l.take j))).length + 1)) = _
               rw [hlen])
      · obtain rfl : j = l.length := by have := of_decide_eq_false h1; omega
        rw [List.take_length]
        by_cases hk3 : k = 3
        · rw [qq hk3]
          conv => whnf
          by_cases hn0 : n = 0
          · rw [qq hn0]
            conv => whnf
            rw [nbe (fun e => (hC.resolve_left (fun h => h hk3)).elim (fun h => h hn0) (fun h => h e))]
            conv => whnf
            exact ⟨[(0, 0)], ⟨rfl, rfl, rfl⟩, .inl rfl, lf_keep _ (congrArg (fun z => some (Blk.own 1 [[i64 z]])) (show left - 1 - (nL l : Int) = left - ((1 + nL l : Nat) : Int) by omega))⟩
          · rw [qn hn0]
            conv => whnf
            exact ⟨[(0, 0)], ⟨rfl, rfl, rfl⟩, .inl rfl, lf_keep _ (congrArg (fun z => some (Blk.own 1 [[i64 z]])) (show left - 1 - (nL l : Int) = left - ((1 + nL l : Nat) : Int) by omega))⟩
        · rw [qn hk3]
          conv => whnf
          exact ⟨[(0, 0)], ⟨rfl, rfl, rfl⟩, .inl rfl, lf_keep _ (congrArg (fun z => some (Blk.own 1 [[i64 z]])) (show left - 1 - (nL l : Int) = left - ((1 + nL l : Nat) : Int) by omega))⟩
end Go.AW.Wir
