/- Frames: the law of torn records. -/
import Derived.Test.YtacmiopopcdofaaF9
set_option linter.unusedVariables false
set_option linter.unusedSimpArgs false
namespace Go.AW.Frm
open Go Go.AW Go.Proofs
open Go.AW.Crc
set_option maxRecDepth 10000
set_option pp.maxSteps 600

theorem cat_take (l : List (List UInt8)) (K : Nat) : (cat l).take (size (l.take K)) = cat (l.take K) := by
  have := cat_append (l.take K) (l.drop K)
  rw [List.take_append_drop] at this
  rw [this, List.take_left' (cat_len _)]
/-- Records that lie whole in what is left are read. -/
theorem scan_pre (l : List (List UInt8)) (h : ∀ p ∈ l, p.length ≤ 4096) (n : Nat) (z : List UInt8) (K : Nat) (hK : size (l.take K) ≤ n) (hn : n ≤ (cat l).length) : ∃ r, scan ((cat l).take n ++ z) = l.take K ++ r := by
  have e : (cat l).take n = cat (l.take K) ++ ((cat l).take n).drop (size (l.take K)) := by
    have e1 := List.take_append_drop (size (l.take K)) ((cat l).take n)
    rw [List.take_take, Nat.min_eq_left hK, cat_take] at e1
    exact e1.symm
  rw [e, List.append_assoc, scan_cat _ _ (fun p hp => h p (List.mem_of_mem_take hp))]
  exact ⟨_, rfl⟩
theorem size_mono (l : List (List UInt8)) {i j : Nat} (h : i ≤ j) : size (l.take i) ≤ size (l.take j) := by
  have : l.take i = (l.take j).take i := by rw [List.take_take, Nat.min_eq_left h]
  rw [this]
  exact size_take _ _
theorem size_step (l : List (List UInt8)) {i : Nat} {p : List UInt8} (h : l[i]? = some p) : size (l.take (i + 1)) = size (l.take i) + (8 + p.length) := by
  rw [List.take_add_one, h, Option.toList_some, size_append]; rfl

theorem FrameTears_law (l : List (List UInt8)) (c : Int) (f : Bool) (hl : l.length * 24 ≤ reachBytes) (hr : ∀ p ∈ l, p.length ≤ reachBytes) (hc1 : IntKind.u16.min ≤ c) (hc2 : c ≤ IntKind.u16.max) : FCv Try.prog 6 [.sl none 1 (recsR l), .lit (.int .u16 c), tb f] (tb true) := by
  have hrb : reachBytes = 140737488351232 := rfl
  have hc1 : 0 ≤ c := hc1
  have hc2 : c ≤ 65535 := hc2
  refine FCv_of_awp (fn := Try.f6) (c := bodyC Try.f6) Try.func6 rfl (of_decide_eq_true rfl) [] ?_
  conv => whnf
  refine ⟨_, awake_law, ?_⟩
  conv => whnf
  refine br_intro (fun h => ?_) (fun h => ?_)
  · rw [h]
    conv => whnf
    exact .inl rfl
  rw [h]
  have h1 := of_decide_eq_false h
  rw [recsR_len] at h1
  conv => whnf
  refine ⟨_, total_law l hl hr, ?_⟩
  conv => whnf
  refine br_intro (fun h => ?_) (fun h => ?_)
  · rw [h]
    conv => whnf
    exact .inl rfl
  rw [h]
  have h3 := of_decide_eq_false h
  have h4 := tally_small l 0 (by omega)
  have h5 := size_lens l
  have hsz : size l ≤ 66016 := by omega
  conv => whnf
  have w := whole_law l (by omega) hr
  unfold wholeT at w
  rcases (Classical.em (∀ p ∈ l, p.length ≤ 4096)).symm with hall | hall
  · rw [if_neg hall] at w
    refine ⟨_, w, ?_⟩
    conv => whnf
    exact .inl rfl
  rw [if_pos hall] at w
  refine ⟨_, w, ?_⟩
  conv => whnf
  have n1 : (Try.prog.types[5]).bytes = 1 := rfl
  have hcl := cat_len l
  obtain ⟨cn, rfl⟩ := Int.eq_ofNat_of_zero_le hc1
  obtain ⟨n, hn⟩ : ∃ n : Nat, n = min cn (cat l).length := ⟨_, rfl⟩
  have em : mnI (IntKind.i64.wrap (cn : Int)) ((bytesR (cat l)).length : Int) = (n : Int) := by
    rw [wrap_i64 _ (by omega) (by omega), bytesR_len, mnI_min, hn]
  have hnl : n ≤ (cat l).length := by omega
  rw [em]
  refine ⟨by omega, ?_⟩
  conv => whnf
  rw [Int.toNat_natCast]
  refine ⟨⟨by omega, by rw [bytesR_len]; omega⟩, ?_⟩
  conv => whnf
  have ct : List.take (n - 0) (List.drop 0 (bytesR (cat l))) = bytesR ((cat l).take n) := by rw [List.drop_zero, bytesR_take]; rfl
  rw [ct]
  have htl : ((cat l).take n).length = n := List.length_take_of_le hnl
  refine ⟨rfl, by rw [n1, bytesR_len, htl]; show (0 + n) * 1 ≤ _; omega, by rw [bytesR_len, htl]; show 0 + n ≤ _; omega, ?_⟩
  conv => whnf
  cases f with
  | true =>
    conv => whnf
    have ez : IntKind.i64.wrap (((bytesR (cat l)).length : Int) - (n : Int)) = (((cat l).length - n : Nat) : Int) := by
      rw [bytesR_len, wrap_i64 _ (by omega) (by omega)]; omega
    rw [ez]
    refine ⟨⟨by omega, by omega, by show _ * ((1 : Nat) : Int) ≤ _; omega⟩, ?_⟩
    conv => whnf
    refine ⟨?_, ?_, ?_, ?_⟩
    · simp only [List.length_append]
    · rw [n1, List.length_append, bytesR_len, htl, List.length_replicate]; show (0 + n + _) * 1 ≤ _; omega
    · rw [List.length_append, bytesR_len, htl, List.length_replicate]; show 0 + n + _ ≤ _; omega
    conv => whnf
    obtain ⟨H, hHd⟩ : ∃ H, H = (cat l).take n ++ List.replicate ((cat l).length - n) 0 := ⟨_, rfl⟩
    have hHl : H.length = (cat l).length := by rw [hHd, List.length_append, htl, List.length_replicate]; omega
    have hArr : ([] ++ bytesR ((cat l).take n) ++ List.replicate (((cat l).length - n : Nat) : Int).toNat (List.map T.lit (Value.int IntKind.u8 0).cells.toList)) = bytesR H := by
      rw [hHd, ← bytesR_append, bytesR_zeros, Int.toNat_natCast]
      rfl
    have hA : (([] ++ bytesR ((cat l).take n) ++ List.replicate (((cat l).length - n : Nat) : Int).toNat (List.map T.lit (Value.int IntKind.u8 0).cells.toList))).length = H.length := by rw [hArr, bytesR_len]
    have sc : FCv Try.prog 13 [.sl none 1 (([] ++ bytesR ((cat l).take n) ++ List.replicate (((cat l).length - n : Nat) : Int).toNat (List.map T.lit (Value.int IntKind.u8 0).cells.toList)))] (.tup [.sl none 1 (recsR (scan H)), i64 (size (scan H) : Nat)]) := by
      rw [hArr]; exact scan_law H (by omega)
    have hH : H.length ≤ 66016 := by rw [hHl]; omega
    have hpre : ∀ K, size (l.take K) ≤ n → ∃ r, scan H = l.take K ++ r := fun K hK => by rw [hHd]; exact scan_pre l hall n _ K hK hnl
    have hss := size_scan H
    have hsg := size_ge (scan H)
    clear hHd
    refine ⟨_, sc, ?_⟩
    conv => whnf
    have hA2 : ¬ (((size (scan H) : Nat) : Int) > (((([] ++ bytesR ((cat l).take n) ++ List.replicate (((cat l).length - n : Nat) : Int).toNat (List.map T.lit (Value.int IntKind.u8 0).cells.toList))).length : Nat) : Int)) := by rw [hA]; omega
    refine br_intro (fun h => absurd (of_decide_eq_true h) hA2) (fun h => ?_)
    rw [h]
    conv => whnf
    refine loop_intro (fun q : {k : Nat // k ≤ (scan H).length ∧ k ≤ l.length ∧ (scan H).take k = l.take k} => ⟨[(0, .sl none 1 (recsR l)), (9, i64 (n : Nat)), (11, .sl none 1 (recsR (scan H))), (13, i64 (size (l.take q.1) : Nat)), (59, i64 ((scan H).length : Nat)), (60, i64 (q.1 : Nat))], [], 118, 1, []⟩) (fun q => (scan H).length - q.1) ⟨0, Nat.zero_le _, Nat.zero_le _, rfl⟩ ?_ ?_
    · exact Wk.intro [] rfl (fun p hp => by cases hp) ⟨.same rfl trivial, .same rfl trivial, .same rfl trivial, .same rfl trivial, .same (congrArg i64 (by rw [recsR_len])) trivial, .same rfl trivial, trivial⟩ trivial
    rintro ⟨k, hk1, hk2, htk⟩
    dsimp only at hk1 hk2 htk ⊢
    conv => whnf
    have hst := size_take l k
    refine br_intro (fun h => ?_) (fun h => ?_)
    · rw [h]
      have hks : k < (scan H).length := by have := of_decide_eq_true h; omega
      conv => whnf
      rw [recsR_len]
      refine br_intro (fun h => ?_) (fun h => ?_)
      · rw [h]
        have hkl : k = l.length := by have := of_decide_eq_true h; omega
        conv => whnf
        refine .inl (congrArg tb (decide_eq_true ?_))
        rw [hkl, List.take_length]
        omega
      rw [h]
      have hkl : k < l.length := by have := of_decide_eq_false h; omega
      have hv : l[k]? = some l[k] := List.getElem?_eq_getElem hkl
      have hw : (scan H)[k]? = some (scan H)[k] := List.getElem?_eq_getElem hks
      have hstep := size_step l hv
      have hst2 := size_take l (k + 1)
      have hsame : (scan H)[k] ≠ l[k] → n < size (l.take (k + 1)) := by
        intro hne
        refine Nat.lt_of_not_le fun hle => hne ?_
        obtain ⟨r, hr⟩ := hpre (k + 1) hle
        have : (scan H)[k]? = l[k]? := by
          rw [hr, List.getElem?_append_left (by rw [List.length_take]; omega), List.getElem?_take_of_lt (by omega)]
        rw [hv, hw] at this
        exact Option.some.inj this
      conv => whnf
      refine ⟨by omega, nthK_intro (recsR_get hw) ?_⟩
      conv => whnf
      refine ⟨_, ⟨rfl, rfl⟩, ?_⟩
      conv => whnf
      refine ⟨by omega, nthK_intro (recsR_get hv) ?_⟩
      conv => whnf
      refine ⟨_, ⟨rfl, rfl⟩, ?_⟩
      conv => whnf
      by_cases he : (scan H)[k] = l[k]
      · rw [show (!(ByteArray.toList ⟨(scan H)[k].toArray⟩ == ByteArray.toList ⟨l[k].toArray⟩)) = false by rw [he]; simp]
        conv => whnf
        refine ⟨by omega, nthK_intro (recsR_get hv) ?_⟩
        conv => whnf
        refine Nx.intro ⟨k + 1, by omega, by omega, ?_⟩ (by simp only; omega) ?_
        · rw [List.take_add_one, List.take_add_one, hv, hw, htk, he]
        · refine Wk.intro [] rfl (fun p hp => by cases hp) ⟨.same rfl trivial, .same rfl trivial, .same rfl trivial, .same (congrArg i64 ?_) trivial, .same rfl trivial, .same (congrArg i64 ?_) trivial, trivial⟩ trivial
          · rw [bytesR_len, hstep, wrap_i64 (8 + ((l[k].length : Nat) : Int)) (by omega) (by omega), wrap_i64 _ (by omega) (by omega)]
            omega
          · rw [wrap_i64 _ (by omega) (by omega)]; rfl
      · have hne : (!(ByteArray.toList ⟨(scan H)[k].toArray⟩ == ByteArray.toList ⟨l[k].toArray⟩)) = true := by
          rw [Bool.not_eq_true', beq_eq_false_iff_ne]
          exact fun e => he (toList_inj e)
        rw [hne]
        have hlt := hsame he
        conv => whnf
        refine ⟨by omega, nthK_intro (recsR_get hv) ?_⟩
        conv => whnf
        refine .inl (congrArg tb (decide_eq_true ?_))
        rw [bytesR_len, wrap_i64 (((size (l.take k) : Nat) : Int) + 8) (by omega) (by omega), wrap_i64 _ (by omega) (by omega)]
        omega
    · rw [h]
      have hks : k = (scan H).length := by have := of_decide_eq_false h; omega
      conv => whnf
      by_cases hkl : k = l.length
      · rw [show (((recsR (scan H)).length : Int) == ((recsR l).length : Int)) = true from beq_iff_eq.2 (by rw [recsR_len, recsR_len]; omega)]
        conv => whnf
        exact .inl rfl
      · rw [show (((recsR (scan H)).length : Int) == ((recsR l).length : Int)) = false from beq_eq_false_iff_ne.2 (by rw [recsR_len, recsR_len]; omega)]
        have hkl : k < l.length := by omega
        have hv : l[k]? = some l[k] := List.getElem?_eq_getElem hkl
        have hstep := size_step l hv
        have hst2 := size_take l (k + 1)
        have hlt : n < size (l.take (k + 1)) := by
          refine Nat.lt_of_not_le fun hle => ?_
          obtain ⟨r, hr⟩ := hpre (k + 1) hle
          have := congrArg List.length hr
          rw [List.length_append, List.length_take] at this
          omega
        conv => whnf
        rw [recsR_len, ← hks]
        refine ⟨by omega, nthK_intro (recsR_get hv) ?_⟩
        conv => whnf
        refine .inl (congrArg tb (decide_eq_true ?_))
        rw [bytesR_len, wrap_i64 (((size (l.take k) : Nat) : Int) + 8) (by omega) (by omega), wrap_i64 _ (by omega) (by omega)]
        omega
  | false =>
    conv => whnf
    obtain ⟨H, hHd⟩ : ∃ H, H = (cat l).take n ++ [] := ⟨_, rfl⟩
    have hHl : H.length = n := by rw [hHd, List.append_nil, htl]
    have hArr : ([] ++ bytesR ((cat l).take n)) = bytesR H := by rw [hHd, List.append_nil]; rfl
    have hA : (([] ++ bytesR ((cat l).take n))).length = H.length := by rw [hArr, bytesR_len]
    have sc : FCv Try.prog 13 [.sl none 1 (([] ++ bytesR ((cat l).take n)))] (.tup [.sl none 1 (recsR (scan H)), i64 (size (scan H) : Nat)]) := by
      rw [hArr]; exact scan_law H (by omega)
    have hH : H.length ≤ 66016 := by rw [hHl]; omega
    have hpre : ∀ K, size (l.take K) ≤ n → ∃ r, scan H = l.take K ++ r := fun K hK => by rw [hHd]; exact scan_pre l hall n _ K hK hnl
    have hss := size_scan H
    have hsg := size_ge (scan H)
    clear hHd
    refine ⟨_, sc, ?_⟩
    conv => whnf
    have hA2 : ¬ (((size (scan H) : Nat) : Int) > (((([] ++ bytesR ((cat l).take n))).length : Nat) : Int)) := by rw [hA]; omega
    refine br_intro (fun h => absurd (of_decide_eq_true h) hA2) (fun h => ?_)
    rw [h]
    conv => whnf
    refine loop_intro (fun q : {k : Nat // k ≤ (scan H).length ∧ k ≤ l.length ∧ (scan H).take k = l.take k} => ⟨[(0, .sl none 1 (recsR l)), (9, i64 (n : Nat)), (11, .sl none 1 (recsR (scan H))), (13, i64 (size (l.take q.1) : Nat)), (59, i64 ((scan H).length : Nat)), (60, i64 (q.1 : Nat))], [], 118, 1, []⟩) (fun q => (scan H).length - q.1) ⟨0, Nat.zero_le _, Nat.zero_le _, rfl⟩ ?_ ?_
    · exact Wk.intro [] rfl (fun p hp => by cases hp) ⟨.same rfl trivial, .same rfl trivial, .same rfl trivial, .same rfl trivial, .same (congrArg i64 (by rw [recsR_len])) trivial, .same rfl trivial, trivial⟩ trivial
    rintro ⟨k, hk1, hk2, htk⟩
    dsimp only at hk1 hk2 htk ⊢
    conv => whnf
    have hst := size_take l k
    refine br_intro (fun h => ?_) (fun h => ?_)
    · rw [h]
      have hks : k < (scan H).length := by have := of_decide_eq_true h; omega
      conv => whnf
      rw [recsR_len]
      refine br_intro (fun h => ?_) (fun h => ?_)
      · rw [h]
        have hkl : k = l.length := by have := of_decide_eq_true h; omega
        conv => whnf
        refine .inl (congrArg tb (decide_eq_true ?_))
        rw [hkl, List.take_length]
        omega
      rw [h]
      have hkl : k < l.length := by have := of_decide_eq_false h; omega
      have hv : l[k]? = some l[k] := List.getElem?_eq_getElem hkl
      have hw : (scan H)[k]? = some (scan H)[k] := List.getElem?_eq_getElem hks
      have hstep := size_step l hv
      have hst2 := size_take l (k + 1)
      have hsame : (scan H)[k] ≠ l[k] → n < size (l.take (k + 1)) := by
        intro hne
        refine Nat.lt_of_not_le fun hle => hne ?_
        obtain ⟨r, hr⟩ := hpre (k + 1) hle
        have : (scan H)[k]? = l[k]? := by
          rw [hr, List.getElem?_append_left (by rw [List.length_take]; omega), List.getElem?_take_of_lt (by omega)]
        rw [hv, hw] at this
        exact Option.some.inj this
      conv => whnf
      refine ⟨by omega, nthK_intro (recsR_get hw) ?_⟩
      conv => whnf
      refine ⟨_, ⟨rfl, rfl⟩, ?_⟩
      conv => whnf
      refine ⟨by omega, nthK_intro (recsR_get hv) ?_⟩
      conv => whnf
      refine ⟨_, ⟨rfl, rfl⟩, ?_⟩
      conv => whnf
      by_cases he : (scan H)[k] = l[k]
      · rw [show (!(ByteArray.toList ⟨(scan H)[k].toArray⟩ == ByteArray.toList ⟨l[k].toArray⟩)) = false by rw [he]; simp]
        conv => whnf
        refine ⟨by omega, nthK_intro (recsR_get hv) ?_⟩
        conv => whnf
        refine Nx.intro ⟨k + 1, by omega, by omega, ?_⟩ (by simp only; omega) ?_
        · rw [List.take_add_one, List.take_add_one, hv, hw, htk, he]
        · refine Wk.intro [] rfl (fun p hp => by cases hp) ⟨.same rfl trivial, .same rfl trivial, .same rfl trivial, .same (congrArg i64 ?_) trivial, .same rfl trivial, .same (congrArg i64 ?_) trivial, trivial⟩ trivial
          · rw [bytesR_len, hstep, wrap_i64 (8 + ((l[k].length : Nat) : Int)) (by omega) (by omega), wrap_i64 _ (by omega) (by omega)]
            omega
          · rw [wrap_i64 _ (by omega) (by omega)]; rfl
      · have hne : (!(ByteArray.toList ⟨(scan H)[k].toArray⟩ == ByteArray.toList ⟨l[k].toArray⟩)) = true := by
          rw [Bool.not_eq_true', beq_eq_false_iff_ne]
          exact fun e => he (toList_inj e)
        rw [hne]
        have hlt := hsame he
        conv => whnf
        refine ⟨by omega, nthK_intro (recsR_get hv) ?_⟩
        conv => whnf
        refine .inl (congrArg tb (decide_eq_true ?_))
        rw [bytesR_len, wrap_i64 (((size (l.take k) : Nat) : Int) + 8) (by omega) (by omega), wrap_i64 _ (by omega) (by omega)]
        omega
    · rw [h]
      have hks : k = (scan H).length := by have := of_decide_eq_false h; omega
      conv => whnf
      by_cases hkl : k = l.length
      · rw [show (((recsR (scan H)).length : Int) == ((recsR l).length : Int)) = true from beq_iff_eq.2 (by rw [recsR_len, recsR_len]; omega)]
        conv => whnf
        exact .inl rfl
      · rw [show (((recsR (scan H)).length : Int) == ((recsR l).length : Int)) = false from beq_eq_false_iff_ne.2 (by rw [recsR_len, recsR_len]; omega)]
        have hkl : k < l.length := by omega
        have hv : l[k]? = some l[k] := List.getElem?_eq_getElem hkl
        have hstep := size_step l hv
        have hst2 := size_take l (k + 1)
        have hlt : n < size (l.take (k + 1)) := by
          refine Nat.lt_of_not_le fun hle => ?_
          obtain ⟨r, hr⟩ := hpre (k + 1) hle
          have := congrArg List.length hr
          rw [List.length_append, List.length_take] at this
          omega
        conv => whnf
        rw [recsR_len, ← hks]
        refine ⟨by omega, nthK_intro (recsR_get hv) ?_⟩
        conv => whnf
        refine .inl (congrArg tb (decide_eq_true ?_))
        rw [bytesR_len, wrap_i64 (((size (l.take k) : Nat) : Int) + 8) (by omega) (by omega), wrap_i64 _ (by omega) (by omega)]
        omega
end Go.AW.Frm
