/- Names: the laws, walked. -/
import Derived.Test.YtciboampiaainaaDoorNamW2
set_option linter.unusedVariables false
set_option linter.unusedSimpArgs false
namespace Go.AW.Nam
open Go Go.AW Go.Proofs Go.Lib Go.RowKit
set_option maxRecDepth 10000
set_option pp.maxSteps 60

theorem str_eq (a b : List UInt8) : (ByteArray.toList ⟨a.toArray⟩ == ByteArray.toList ⟨b.toArray⟩) = decide (a = b) := by
  rw [toList_data, toList_data, Bool.eq_iff_iff, beq_iff_eq, decide_eq_true_eq]
theorem str_app (a b : List UInt8) : (⟨a.toArray⟩ : ByteArray) ++ ⟨b.toArray⟩ = ⟨(a ++ b).toArray⟩ := by
  apply ByteArray.ext
  apply Array.ext'
  simp
theorem str_same {a b : List UInt8} (h : a = b) : (ByteArray.toList ⟨a.toArray⟩ == ByteArray.toList ⟨b.toArray⟩) = true := by rw [h]; exact beq_self_eq_true _

theorem awake_law : FCv Tryd.prog 10 [] (tb true) := by
  obtain ⟨K, hK⟩ : ∃ K : List UInt8, K = [119, 101, 98, 45, 49] := ⟨_, rfl⟩
  obtain ⟨C, hC⟩ : ∃ C : List UInt8, C = [195, 164, 195, 182] := ⟨_, rfl⟩
  have k1 : FCv Tryd.prog 13 [str [87, 101, 98, 45, 49]] (.tup [str K, i64 0]) := by
    have := key_law [87, 101, 98, 45, 49] (by decide)
    rw [show may [87, 101, 98, 45, 49] = true by decide +kernel, if_pos rfl, if_pos rfl, show [87, 101, 98, 45, 49].map foldB = K by rw [hK]; decide +kernel] at this
    exact this
  have k2 : FCv Tryd.prog 13 [str [97, 32, 98]] (.tup [str [], i64 5]) := by
    have := key_law [97, 32, 98] (by decide)
    rw [show may [97, 32, 98] = false by decide +kernel] at this
    exact this
  have r1 : FCv Tryd.prog 11 [str [255]] (.tup [i64 1, tb false]) := by
    have := runes_law [255] (by decide)
    rw [show (segs [255]).length = 1 by decide +kernel, show right (segs [255]) = false by decide +kernel] at this
    exact this
  have m1 : FCv Tryd.prog 15 [str [97]] (tb true) := by
    have := may_law [97] (by decide)
    rw [show may [97] = true by decide +kernel] at this
    exact this
  have m2 : FCv Tryd.prog 15 [str [45, 97]] (tb false) := by
    have := may_law [45, 97] (by decide)
    rw [show may [45, 97] = false by decide +kernel] at this
    exact this
  have c1 : FCv Tryd.prog 17 [str [195, 164, 195, 182, 195, 188], i64 2] (str C) := by
    have := cut_law [195, 164, 195, 182, 195, 188] 2 (by decide) (by decide)
    rw [show cut [195, 164, 195, 182, 195, 188] 2 = C by rw [hC]; decide +kernel] at this
    exact this
  have l1 : FCv Tryd.prog 19 [str [97], str [98]] (tb true) := by
    have := less_law [97] [98]
    rw [show less [97] [98] = true by decide +kernel] at this
    exact this
  have l2 : FCv Tryd.prog 19 [str [98], str [97]] (tb false) := by
    have := less_law [98] [97]
    rw [show less [98] [97] = false by decide +kernel] at this
    exact this
  refine FCv_of_awp (fn := Tryd.f10) (c := bodyC Tryd.f10) Tryd.func10 rfl (of_decide_eq_true rfl) [] ?_
  conv => whnf
  refine ⟨_, k1, ?_⟩
  conv => whnf
  refine ⟨_, k2, ?_⟩
  conv => whnf
  refine ⟨_, r1, ?_⟩
  conv => whnf
  rw [show (ByteArray.toList ⟨K.toArray⟩ == _) = true from str_same (b := [119, 101, 98, 45, 49]) hK]
  conv => whnf
  refine ⟨_, m1, ?_⟩
  conv => whnf
  refine ⟨_, m2, ?_⟩
  conv => whnf
  refine ⟨_, c1, ?_⟩
  conv => whnf
  rw [show (ByteArray.toList ⟨C.toArray⟩ == _) = true from str_same (b := [195, 164, 195, 182]) hC]
  conv => whnf
  refine ⟨_, l1, ?_⟩
  conv => whnf
  refine ⟨_, l2, ?_⟩
  conv => whnf
  exact .inl rfl

theorem NameTells_law (l : List UInt8) (hl : l.length ≤ reachBytes) : FCv Tryd.prog 3 [str l] (tb true) := by
  have hrb : reachBytes = 140737488351232 := rfl
  refine FCv_of_awp (fn := Tryd.f3) (c := bodyC Tryd.f3) Tryd.func3 rfl (of_decide_eq_true rfl) [] ?_
  conv => whnf
  refine ⟨_, awake_law, ?_⟩
  conv => whnf
  refine ⟨_, runes_law l (by omega), ?_⟩
  conv => whnf
  refine ⟨_, rrunes_law l (by omega), ?_⟩
  conv => whnf
  refine ⟨_, key_law l (by omega), ?_⟩
  conv => whnf
  refine ⟨_, rkey_law l (by omega), ?_⟩
  conv => whnf
  refine ⟨_, may_law l (by omega), ?_⟩
  conv => whnf
  refine ⟨_, rmay_law l (by omega), ?_⟩
  conv => whnf
  rw [beq_self_eq_true (may l)]
  conv => whnf
  rw [beq_self_eq_true (((segs l).length : Nat) : Int)]
  conv => whnf
  rw [beq_self_eq_true (right (segs l))]
  conv => whnf
  rw [str_eq, decide_eq_true rfl]
  conv => whnf
  exact .inl (congrArg tb (beq_self_eq_true _))

theorem NameCuts_law (a b : List UInt8) (n : Int) (ha : a.length ≤ reachBytes) (hb : b.length ≤ reachBytes) (h1 : -9223372036854775808 ≤ n) (h2 : n ≤ 9223372036854775807) : FCv Tryd.prog 4 [str a, str b, i64 n] (tb true) := by
  have hrb : reachBytes = 140737488351232 := rfl
  refine FCv_of_awp (fn := Tryd.f4) (c := bodyC Tryd.f4) Tryd.func4 rfl (of_decide_eq_true rfl) [] ?_
  conv => whnf
  refine ⟨_, awake_law, ?_⟩
  conv => whnf
  refine ⟨_, cut_law a n h1 h2, ?_⟩
  conv => whnf
  refine ⟨_, rcut_law a n (by omega) h1 h2, ?_⟩
  conv => whnf
  rw [str_eq, decide_eq_true rfl]
  conv => whnf
  refine ⟨_, less_law a b, ?_⟩
  conv => whnf
  refine ⟨_, rless_law a b (by omega) (by omega), ?_⟩
  conv => whnf
  exact .inl (congrArg tb (beq_self_eq_true _))

theorem seg_fold_len (l : List UInt8) : (segs (l.map foldB)).length = (segs l).length := by rw [segs_fold, List.length_map]
theorem may_len {l : List UInt8} (h : may l = true) : (segs l).length ≤ 24 := by
  unfold may mayG at h
  simp only [Bool.and_eq_true, decide_eq_true_eq] at h
  exact h.1.1.2
theorem NameKeys_law (l : List UInt8) (hl : l.length ≤ reachBytes) : FCv Tryd.prog 5 [str l] (tb true) := by
  have hrb : reachBytes = 140737488351232 := rfl
  refine FCv_of_awp (fn := Tryd.f5) (c := bodyC Tryd.f5) Tryd.func5 rfl (of_decide_eq_true rfl) [] ?_
  conv => whnf
  refine ⟨_, awake_law, ?_⟩
  conv => whnf
  have hk := key_law l (by omega)
  have hm := may_law l (by omega)
  cases h : may l with
  | false =>
    obtain ⟨E, hE⟩ : ∃ E : List UInt8, E = [] := ⟨_, rfl⟩
    rw [h, if_neg Bool.false_ne_true, if_neg Bool.false_ne_true, ← hE] at hk
    rw [h] at hm
    refine ⟨_, hk, ?_⟩
    conv => whnf
    refine ⟨_, hm, ?_⟩
    conv => whnf
    rw [show (ByteArray.toList ⟨E.toArray⟩ == _) = true from str_same (b := []) hE]
    conv => whnf
    exact .inl rfl
  | true =>
    rw [h, if_pos rfl, if_pos rfl] at hk
    rw [h] at hm
    refine ⟨_, hk, ?_⟩
    conv => whnf
    refine ⟨_, hm, ?_⟩
    conv => whnf
    have hl2 : (l.map foldB).length ≤ 9223372036854775806 := by rw [List.length_map]; omega
    have hk2 := key_law (l.map foldB) hl2
    have hr := runes_law (l.map foldB) hl2
    have hm2 := may_law (l.map foldB) hl2
    have hr0 := runes_law l (by omega)
    rw [may_fold, h, if_pos rfl, if_pos rfl, fold_fold] at hk2
    rw [right_fold, seg_fold_len, may_right h] at hr
    rw [may_fold, h] at hm2
    rw [may_right h] at hr0
    refine ⟨_, hk2, ?_⟩
    conv => whnf
    refine ⟨_, hr0, ?_⟩
    conv => whnf
    refine ⟨_, hr, ?_⟩
    conv => whnf
    refine ⟨_, hm2, ?_⟩
    conv => whnf
    rw [str_eq, decide_eq_true rfl]
    conv => whnf
    rw [beq_self_eq_true (((segs l).length : Nat) : Int)]
    conv => whnf
    rw [str_size, str_size, List.length_map, beq_self_eq_true ((l.length : Nat) : Int)]
    conv => whnf
    exact .inl (congrArg tb (decide_eq_true (by have := may_len h; omega)))

theorem less_tri {a b : List UInt8} (ha : right (segs a) = true) (hb : right (segs b) = true) (hne : a ≠ b) (h : less a b = false) (h' : less b a = false) : False :=
  hne (rns_inj ha hb (lex_tri _ _ h h'))
theorem rns_append {a : List UInt8} (b : List UInt8) (h : right (segs a) = true) : rns (a ++ b) = rns a ++ rns b := by
  unfold rns; rw [segs_append b h, List.map_append]
theorem NameOrder_law (a b c : List UInt8) (ha : a.length ≤ reachBytes) (hb : b.length ≤ reachBytes) (hc : c.length ≤ reachBytes) : FCv Tryd.prog 6 [str a, str b, str c] (tb true) := by
  have hrb : reachBytes = 140737488351232 := rfl
  refine FCv_of_awp (fn := Tryd.f6) (c := bodyC Tryd.f6) Tryd.func6 rfl (of_decide_eq_true rfl) [] ?_
  conv => whnf
  refine ⟨_, awake_law, ?_⟩
  conv => whnf
  have laa := less_law a a
  have lab := less_law a b
  have lba := less_law b a
  have lbc := less_law b c
  have lac := less_law a c
  have haa : less a a = false := lex_irr _
  rw [haa] at laa
  refine ⟨_, laa, ?_⟩
  conv => whnf
  cases h1 : less a b with
  | true =>
    have h2 : less b a = false := lex_asym _ _ h1
    rw [h1] at lab
    rw [h2] at lba
    refine ⟨_, lab, ?_⟩
    conv => whnf
    refine ⟨_, lba, ?_⟩
    conv => whnf
    refine ⟨_, lab, ?_⟩
    conv => whnf
    refine ⟨_, lbc, ?_⟩
    conv => whnf
    cases h3 : less b c with
    | true =>
      have h4 : less a c = true := lex_trans _ _ _ h1 h3
      rw [h4] at lac
      conv => whnf
      refine ⟨_, lac, ?_⟩
      conv => whnf
      refine ⟨_, runes_law a (by omega), ?_⟩
      conv => whnf
      refine ⟨_, runes_law b (by omega), ?_⟩
      conv => whnf
      cases ra : right (segs a) with
      | false =>
        conv => whnf
        refine ⟨by rw [str_size, str_size]; omega, ?_⟩
        conv => whnf
        rw [str_app]
        refine ⟨_, less_law (a ++ b) a, ?_⟩
        conv => whnf

        cases less (a ++ b) a <;> (conv => whnf) <;> exact .inl rfl

      | true =>
        conv => whnf
        cases rb : right (segs b) with
        | false =>
          conv => whnf
          refine ⟨by rw [str_size, str_size]; omega, ?_⟩
          conv => whnf
          rw [str_app]
          refine ⟨_, less_law (a ++ b) a, ?_⟩
          conv => whnf

          rw [show less (a ++ b) a = false from by unfold less; rw [rns_append b ra]; exact lex_pre _ _]
          conv => whnf
          exact .inl rfl

        | true =>
          conv => whnf
          rw [str_eq]
          by_cases hab : a = b
          · rw [decide_eq_true hab]
            conv => whnf
            refine ⟨by rw [str_size, str_size]; omega, ?_⟩
            conv => whnf
            rw [str_app]
            refine ⟨_, less_law (a ++ b) a, ?_⟩
            conv => whnf

            rw [show less (a ++ b) a = false from by unfold less; rw [rns_append b ra]; exact lex_pre _ _]
            conv => whnf
            exact .inl rfl

          · rw [decide_eq_false hab]
            conv => whnf
            refine ⟨_, lab, ?_⟩
            conv => whnf

            refine ⟨by rw [str_size, str_size]; omega, ?_⟩
            conv => whnf
            rw [str_app]
            refine ⟨_, less_law (a ++ b) a, ?_⟩
            conv => whnf

            rw [show less (a ++ b) a = false from by unfold less; rw [rns_append b ra]; exact lex_pre _ _]
            conv => whnf
            exact .inl rfl

    | false =>
      conv => whnf
      refine ⟨_, runes_law a (by omega), ?_⟩
      conv => whnf
      refine ⟨_, runes_law b (by omega), ?_⟩
      conv => whnf
      cases ra : right (segs a) with
      | false =>
        conv => whnf
        refine ⟨by rw [str_size, str_size]; omega, ?_⟩
        conv => whnf
        rw [str_app]
        refine ⟨_, less_law (a ++ b) a, ?_⟩
        conv => whnf

        cases less (a ++ b) a <;> (conv => whnf) <;> exact .inl rfl

      | true =>
        conv => whnf
        cases rb : right (segs b) with
        | false =>
          conv => whnf
          refine ⟨by rw [str_size, str_size]; omega, ?_⟩
          conv => whnf
          rw [str_app]
          refine ⟨_, less_law (a ++ b) a, ?_⟩
          conv => whnf

          rw [show less (a ++ b) a = false from by unfold less; rw [rns_append b ra]; exact lex_pre _ _]
          conv => whnf
          exact .inl rfl

        | true =>
          conv => whnf
          rw [str_eq]
          by_cases hab : a = b
          · rw [decide_eq_true hab]
            conv => whnf
            refine ⟨by rw [str_size, str_size]; omega, ?_⟩
            conv => whnf
            rw [str_app]
            refine ⟨_, less_law (a ++ b) a, ?_⟩
            conv => whnf

            rw [show less (a ++ b) a = false from by unfold less; rw [rns_append b ra]; exact lex_pre _ _]
            conv => whnf
            exact .inl rfl

          · rw [decide_eq_false hab]
            conv => whnf
            refine ⟨_, lab, ?_⟩
            conv => whnf

            refine ⟨by rw [str_size, str_size]; omega, ?_⟩
            conv => whnf
            rw [str_app]
            refine ⟨_, less_law (a ++ b) a, ?_⟩
            conv => whnf

            rw [show less (a ++ b) a = false from by unfold less; rw [rns_append b ra]; exact lex_pre _ _]
            conv => whnf
            exact .inl rfl

  | false =>
    rw [h1] at lab
    refine ⟨_, lab, ?_⟩
    conv => whnf
    refine ⟨_, lab, ?_⟩
    conv => whnf
    refine ⟨_, runes_law a (by omega), ?_⟩
    conv => whnf
    refine ⟨_, runes_law b (by omega), ?_⟩
    conv => whnf
    cases ra : right (segs a) with
    | false =>
      conv => whnf
      refine ⟨by rw [str_size, str_size]; omega, ?_⟩
      conv => whnf
      rw [str_app]
      refine ⟨_, less_law (a ++ b) a, ?_⟩
      conv => whnf

      cases less (a ++ b) a <;> (conv => whnf) <;> exact .inl rfl

    | true =>
      conv => whnf
      cases rb : right (segs b) with
      | false =>
        conv => whnf
        refine ⟨by rw [str_size, str_size]; omega, ?_⟩
        conv => whnf
        rw [str_app]
        refine ⟨_, less_law (a ++ b) a, ?_⟩
        conv => whnf

        rw [show less (a ++ b) a = false from by unfold less; rw [rns_append b ra]; exact lex_pre _ _]
        conv => whnf
        exact .inl rfl

      | true =>
        conv => whnf
        rw [str_eq]
        by_cases hab : a = b
        · rw [decide_eq_true hab]
          conv => whnf
          refine ⟨by rw [str_size, str_size]; omega, ?_⟩
          conv => whnf
          rw [str_app]
          refine ⟨_, less_law (a ++ b) a, ?_⟩
          conv => whnf

          rw [show less (a ++ b) a = false from by unfold less; rw [rns_append b ra]; exact lex_pre _ _]
          conv => whnf
          exact .inl rfl

        · rw [decide_eq_false hab]
          conv => whnf
          refine ⟨_, lab, ?_⟩
          conv => whnf
          cases h2 : less b a with
          | false => exact (less_tri ra rb hab h1 h2).elim
          | true =>
            rw [h2] at lba
            refine ⟨_, lba, ?_⟩
            conv => whnf
            refine ⟨by rw [str_size, str_size]; omega, ?_⟩
            conv => whnf
            rw [str_app]
            refine ⟨_, less_law (a ++ b) a, ?_⟩
            conv => whnf

            rw [show less (a ++ b) a = false from by unfold less; rw [rns_append b ra]; exact lex_pre _ _]
            conv => whnf
            exact .inl rfl

theorem NameParts_law (l : List UInt8) (n m : Int) (hl : l.length ≤ reachBytes) (h1 : -9223372036854775808 ≤ n) (h2 : n ≤ 9223372036854775807) (h3 : -9223372036854775808 ≤ m) (h4 : m ≤ 9223372036854775807) :
    FCv Tryd.prog 7 [str l, i64 n, i64 m] (tb true) := by
  have hrb : reachBytes = 140737488351232 := rfl
  refine FCv_of_awp (fn := Tryd.f7) (c := bodyC Tryd.f7) Tryd.func7 rfl (of_decide_eq_true rfl) [] ?_
  conv => whnf
  refine ⟨_, awake_law, ?_⟩
  conv => whnf
  refine br_intro (fun h => ?_) (fun h => ?_) <;> (rw [h]; conv => whnf)
  · exact .inl rfl
  refine ⟨_, runes_law l (by omega), ?_⟩
  conv => whnf
  refine ⟨_, cut_law l n h1 h2, ?_⟩
  conv => whnf
  have hcl := cut_len_le l n
  have hr := runes_law (cut l n) (by omega)
  rw [cut_segs l n, List.length_take] at hr
  refine ⟨_, hr, ?_⟩
  conv => whnf
  rw [mxI_zero, mnI_min]
  rw [show (((min n.toNat (segs l).length : Nat) : Int) != ((min n.toNat (segs l).length : Nat) : Int)) = false from bne_self_eq_false _]
  conv => whnf
  rw [str_size, str_size, show decide (((cut l n).length : Int) > (l.length : Int)) = false from decide_eq_false (by omega)]
  conv => whnf
  refine ⟨by omega, ?_⟩
  conv => whnf
  rw [str_size, str_size, str_ext, Int.toNat_natCast, List.drop_zero, Nat.sub_zero, cut_take]
  refine ⟨⟨Nat.zero_le _, by omega⟩, ?_⟩
  conv => whnf
  rw [str_eq, decide_eq_true rfl]
  conv => whnf
  refine ⟨_, cut_law (cut l n) m h3 h4, ?_⟩
  conv => whnf
  have hmn : mnI n m = if m < n then m else n := rfl
  refine ⟨_, cut_law l (mnI n m) (by rw [hmn]; split <;> omega) (by rw [hmn]; split <;> omega), ?_⟩
  conv => whnf
  rw [show cut (cut l n) m = cut l (mnI n m) from cut_cut l n m, str_eq, decide_eq_true rfl]
  conv => whnf
  have hm := may_law l (by omega)
  cases h : may l with
  | false =>
    rw [h] at hm
    refine ⟨_, hm, ?_⟩
    conv => whnf
    exact .inl rfl
  | true =>
    rw [h] at hm
    refine ⟨_, hm, ?_⟩
    conv => whnf
    refine br_intro (fun h5 => ?_) (fun h5 => ?_) <;> (rw [h5]; conv => whnf)
    · exact .inl rfl
    · have hm2 := may_law (cut l n) (by omega)
      rw [may_cut h (by have := of_decide_eq_false h5; omega)] at hm2
      refine ⟨_, hm2, ?_⟩
      conv => whnf
      exact .inl rfl

theorem less_empty (b : List UInt8) (h : b ≠ []) (a : List UInt8) (ha : right (segs a) = true) : less a (a ++ b) = true := by
  unfold less
  rw [rns_append b ha]
  exact lex_pre2 _ _ (by unfold rns; rw [segs_cons h]; exact List.cons_ne_nil _ _)
theorem right_append {a b : List UInt8} (ha : right (segs a) = true) (hb : right (segs b) = true) : right (segs (a ++ b)) = true := by
  rw [segs_append b ha]; unfold right at *; rw [List.all_append, ha, hb]; rfl
theorem cut_join {a : List UInt8} (b : List UInt8) (ha : right (segs a) = true) : cut (a ++ b) ((segs a).length : Nat) = a := by
  unfold cut
  rw [segs_append b ha, Int.toNat_natCast, List.take_left' rfl, cat_segs]
theorem NameJoins_law (a b : List UInt8) (ha : a.length ≤ reachBytes) (hb : b.length ≤ reachBytes) : FCv Tryd.prog 9 [str a, str b] (tb true) := by
  have hrb : reachBytes = 140737488351232 := rfl
  refine FCv_of_awp (fn := Tryd.f9) (c := bodyC Tryd.f9) Tryd.func9 rfl (of_decide_eq_true rfl) [] ?_
  conv => whnf
  refine ⟨_, awake_law, ?_⟩
  conv => whnf
  refine ⟨_, runes_law a (by omega), ?_⟩
  conv => whnf
  refine ⟨_, runes_law b (by omega), ?_⟩
  conv => whnf
  have hab : (a ++ b).length ≤ 9223372036854775806 := by rw [List.length_append]; omega
  refine ⟨by rw [str_size, str_size]; omega, ?_⟩
  conv => whnf
  rw [str_app]
  refine ⟨_, runes_law (a ++ b) hab, ?_⟩
  conv => whnf
  cases ra : right (segs a) with
  | false =>
    conv => whnf
    exact .inl rfl
  | true =>
    conv => whnf
    cases rb : right (segs b) with
    | false =>
      conv => whnf
      exact .inl rfl
    | true =>
      conv => whnf
      have hla := segs_len_le a
      have hlb := segs_len_le b
      have hn : ((segs (a ++ b)).length : Int) = IntKind.i64.wrap (((segs a).length : Int) + ((segs b).length : Int)) := by
        rw [wrap_i64 _ (by omega) (by omega), segs_append b ra, List.length_append]; omega
      rw [hn, beq_self_eq_true (IntKind.i64.wrap (((segs a).length : Int) + ((segs b).length : Int)))]
      conv => whnf
      rw [right_append ra rb]
      conv => whnf
      refine ⟨by rw [str_size, str_size]; omega, ?_⟩
      conv => whnf
      rw [str_app]
      have hc := cut_law (a ++ b) ((segs a).length : Nat) (by omega) (by omega)
      rw [cut_join b ra] at hc
      refine ⟨_, hc, ?_⟩
      conv => whnf
      rw [str_eq, decide_eq_true rfl]
      conv => whnf
      refine ⟨by rw [str_size, str_size]; omega, ?_⟩
      conv => whnf
      rw [str_app]
      have hl := less_law (a ++ b) a
      rw [show less (a ++ b) a = false from by unfold less; rw [rns_append b ra]; exact lex_pre _ _] at hl
      refine ⟨_, hl, ?_⟩
      conv => whnf
      rw [empty_eq]
      cases hb0 : b.isEmpty with
      | true =>
        conv => whnf
        exact .inl rfl
      | false =>
        conv => whnf
        refine ⟨by rw [str_size, str_size]; omega, ?_⟩
        conv => whnf
        rw [str_app]
        have hl2 := less_law a (a ++ b)
        rw [less_empty b (by rintro rfl; cases hb0) a ra] at hl2
        refine ⟨_, hl2, ?_⟩
        conv => whnf
        exact .inl rfl

theorem flip_fold (c : UInt8) (h : (97 ≤ c.toNat ∧ c.toNat ≤ 122) ∨ (65 ≤ c.toNat ∧ c.toNat ≤ 90)) : foldB (UInt8.ofNat (c.toNat ^^^ 32)) = foldB c := by
  have key : ∀ n : Fin 256, ((97 ≤ n.1 ∧ n.1 ≤ 122) ∨ (65 ≤ n.1 ∧ n.1 ≤ 90)) → foldN ((n.1 ^^^ 32) % 256) = foldN n.1 := by decide +kernel
  apply UInt8.toNat_inj.1
  rw [foldB_toNat, foldB_toNat, UInt8.toNat_ofNat']
  exact key ⟨c.toNat, c.toNat_lt⟩ h
theorem xor8_nat (c : UInt8) : bitsI .xor .u8 (c.toNat : Int) 32 = ((UInt8.ofNat (c.toNat ^^^ 32)).toNat : Int) := by
  have h : bitsI .xor .u8 (c.toBitVec.toNat : Int) ((32#8).toNat : Int) = ((c.toBitVec ^^^ 32#8).toNat : Int) := xor8 c.toBitVec 32#8
  refine h.trans ?_
  rw [BitVec.toNat_xor, UInt8.toNat_ofNat']
  have h2 : c.toNat ^^^ 32 < 2 ^ 8 := Nat.xor_lt_two_pow c.toNat_lt (by decide)
  show ((c.toNat ^^^ 32 : Nat) : Int) = _
  rw [Nat.mod_eq_of_lt h2]
theorem set_fold {z a : List UInt8} {i : Nat} {c d : UInt8} (hz : z.map foldB = a.map foldB) (hc : z[i]? = some c) (hd : foldB d = foldB c) : (z.set i d).map foldB = a.map foldB := by
  rw [List.map_set, hd, ← hz]
  have hi : i < z.length := (List.getElem?_eq_some_iff.1 hc).1
  have e : z[i] = c := (List.getElem?_eq_some_iff.1 hc).2
  have h : (z.map foldB)[i]'(by simpa using hi) = foldB c := by rw [List.getElem_map, e]
  rw [← h]
  exact List.set_getElem_self _

theorem NameCase_law (a b : List UInt8) (n : Int) (ha : a.length ≤ reachBytes) (hb : b.length ≤ reachBytes) : FCv Tryd.prog 8 [str a, str b, .lit (.int .u16 n)] (tb true) := by
  have hrb : reachBytes = 140737488351232 := rfl
  refine FCv_of_awp (fn := Tryd.f8) (c := bodyC Tryd.f8) Tryd.func8 rfl (of_decide_eq_true rfl) [18] ?_
  conv => whnf
  refine ⟨_, awake_law, ?_⟩
  conv => whnf
  refine loop_intro (fun y : { y : Nat × List UInt8 // y.1 ≤ a.length ∧ y.2.map foldB = a.map foldB } => ⟨[(0, str a), (1, str b), (2, .lit (.int .u16 n)), (7, .sref 0 0 a.length), (20, i64 a.length), (21, i64 y.1.1)], [(0, .own 1 (bytesR y.1.2))], 105, 1, [18]⟩) (fun y => a.length - y.1.1) ⟨(0, a), Nat.zero_le _, rfl⟩ ?_ ?_
  · refine Wk.intro [] rfl (fun p hp => by cases hp) ⟨.same rfl trivial, .same rfl trivial, .same rfl trivial, .same (congrArg (T.sref 0 0) (str_size a)) (by exact rfl), .same (congrArg i64 (congrArg Nat.cast (str_size a))) trivial, .same rfl trivial, trivial⟩ ⟨⟨rfl, .inl ⟨rfl, bytesR_blt _ _⟩⟩, trivial⟩
  rintro ⟨⟨i, z⟩, hi, hz⟩
  dsimp only at hi hz ⊢
  conv => whnf
  have hzl : z.length = a.length := by have := congrArg List.length hz; simpa using this
  refine br_intro (fun h => ?_) (fun h => ?_) <;> (rw [h]; conv => whnf)
  · have hi2 : i < a.length := by have := of_decide_eq_true h; omega
    obtain ⟨c, hc⟩ : ∃ c, z[i]? = some c := ⟨_, List.getElem?_eq_getElem (by omega)⟩
    have hix : (bytesR z)[0 + Int.toNat (i : Int)]? = some [.lit (.int .u8 c.toNat)] := by rw [Nat.zero_add, Int.toNat_natCast]; exact bytes_get hc
    have hinc : IntKind.i64.wrap ((i : Int) + 1) = ((i + 1 : Nat) : Int) := by rw [wrap_i64 _ (by omega) (by omega)]; omega
    refine ⟨by decide, ?_⟩
    conv => whnf
    refine ⟨Int.tmod_nonneg _ (by omega), ?_⟩
    conv => whnf
    repeat' first
      | (refine br_intro (fun h => ?_) (fun h => ?_) <;> (rw [h]; conv => whnf))
      | (refine ⟨⟨by omega, by omega⟩, nthK_intro hix ?_⟩; conv => whnf)
    all_goals (rw [hinc])
    all_goals first
      | (refine Nx.intro ⟨(i + 1, z), by dsimp only; omega, hz⟩ (by dsimp only; omega) ?_
         exact Wk.intro [] rfl (fun p hp => by cases hp) ⟨.same rfl trivial, .same rfl trivial, .same rfl trivial, .same rfl (by exact rfl), .same rfl trivial, .same rfl trivial, trivial⟩ ⟨⟨rfl, .inl ⟨rfl, bytesR_blt _ _⟩⟩, trivial⟩)
      | (refine Nx.intro ⟨(i + 1, z.set i (UInt8.ofNat (c.toNat ^^^ 32))), by dsimp only; omega, set_fold hz hc (flip_fold c (by simp only [decide_eq_true_eq, decide_eq_false_iff_not] at *; omega))⟩ (by dsimp only; omega) ?_
         refine Wk.intro [] rfl (fun p hp => by cases hp) ⟨.same rfl trivial, .same rfl trivial, .same rfl trivial, .same rfl (by exact rfl), .same rfl trivial, .same rfl trivial, trivial⟩ ⟨⟨rfl, .inl ⟨?_, bytesR_blt _ _⟩⟩, trivial⟩
         show some (Blk.own 1 ((bytesR z).set (0 + Int.toNat (i : Int)) [.lit (.int .u8 (bitsI .xor .u8 (c.toNat : Int) 32))])) = _
         rw [Nat.zero_add, Int.toNat_natCast, xor8_nat, bytesR_setB])
  · have hi2 : i = a.length := by have := of_decide_eq_false h; omega
    refine ⟨_, key_law a (by omega), ?_⟩
    conv => whnf
    refine ⟨by rw [bytesR_len]; omega, z, ⟨rfl, ?_⟩, ?_⟩
    · rw [List.drop_zero]; exact List.take_of_length_le (by rw [bytesR_len]; omega)
    conv => whnf
    have hkz := key_law z (by omega)
    rw [hz, show may z = may a by rw [← may_fold z, hz, may_fold]] at hkz
    refine ⟨_, hkz, ?_⟩
    conv => whnf
    have hkb := key_law b (by omega)
    refine ⟨_, hkb, ?_⟩
    conv => whnf
    rw [str_eq, decide_eq_true rfl]
    conv => whnf
    rw [show ((if may a = true then (0 : Int) else 5) != if may a = true then (0 : Int) else 5) = false from bne_self_eq_false _]
    conv => whnf
    cases hma : may a with
    | false =>
      conv => whnf
      exact .inl rfl
    | true =>
      conv => whnf
      cases hmb : may b with
      | false =>
        conv => whnf
        exact .inl rfl
      | true =>
        conv => whnf
        rw [str_eq]
        by_cases hab : a = b
        · rw [decide_eq_true hab]
          conv => whnf
          refine .inl (congrArg tb ?_)
          rw [str_eq]
          exact decide_eq_true (by rw [hab])
        · rw [decide_eq_false hab]
          conv => whnf
          exact .inl rfl

end Go.AW.Nam
