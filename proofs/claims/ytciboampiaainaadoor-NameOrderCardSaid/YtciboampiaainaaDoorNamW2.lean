/- Names: the reference's functions, walked. -/
import Derived.Test.YtciboampiaainaaDoorNamW1
set_option linter.unusedVariables false
set_option linter.unusedSimpArgs false
namespace Go.AW.Nam
open Go Go.AW Go.Proofs Go.Lib Go.RowKit
set_option maxRecDepth 10000
set_option pp.maxSteps 60

def bt (l : List UInt8) (k : Nat) : Nat := (l.getD k 0).toNat
theorem bt_lt (l : List UInt8) (k : Nat) : bt l k < 256 := (l.getD k 0).toNat_lt
theorem bt_get {l : List UInt8} {k : Nat} (h : k < l.length) : l[k]? = some (l.getD k 0) := by simp [List.getD, h]
def okR (l : List UInt8) : Bool := !((decodeL l).1 == 65533 && (decodeL l).2 == 1)
theorem dec_bt (l : List UInt8) : decodeL l = decodeN l.length (bt l 0) (bt l 1) (bt l 2) (bt l 3) := decodeL_N l
theorem rune_bad {l : List UInt8} (h : decodeL l = (65533, 1)) : okR l = false := by unfold okR; rw [h]; rfl
theorem rune_one {l : List UInt8} (h : bt l 0 < 128) : decodeL l = (bt l 0, 1) := by rw [dec_bt]; exact decodeN_ascii _ _ _ _ _ h
/-- What the reference has after some bytes more. -/
def acc (l : List UInt8) (c : Int) : Nat → Int
  | 0 => c
  | k + 1 => acc l c k * 64 + bt l (k + 1) - 128
theorem acc_le (l : List UInt8) (c : Int) (h0 : 0 ≤ c) (h1 : c ≤ 31) : ∀ k, (∀ j, 1 ≤ j → j ≤ k → 128 ≤ bt l j ∧ bt l j ≤ 191) → 0 ≤ acc l c k ∧ acc l c k ≤ 32 * 64 ^ k - 1
  | 0, _ => ⟨h0, by simp [acc]; omega⟩
  | k + 1, h => by
    obtain ⟨h2, h3⟩ := acc_le l c h0 h1 k fun j hj hk => h j hj (by omega)
    have h4 := h (k + 1) (by omega) (by omega)
    have e : (64 : Int) ^ (k + 1) = 64 ^ k * 64 := Int.pow_succ ..
    simp only [acc, e]
    generalize (64 : Int) ^ k = z at *
    omega
theorem dec_bad {l : List UInt8} (h : ¬ bt l 0 < 128) (h2 : ¬ (bt l 0 / 32 = 6 ∧ 1 < l.length ∧ bt l 1 / 64 = 2 ∧ 128 ≤ bt l 0 % 32 * 64 + bt l 1 % 64))
    (h3 : ¬ (bt l 0 / 16 = 14 ∧ 2 < l.length ∧ bt l 1 / 64 = 2 ∧ bt l 2 / 64 = 2 ∧ 2048 ≤ bt l 0 % 16 * 4096 + bt l 1 % 64 * 64 + bt l 2 % 64 ∧ (bt l 0 % 16 * 4096 + bt l 1 % 64 * 64 + bt l 2 % 64 < 55296 ∨ 57344 ≤ bt l 0 % 16 * 4096 + bt l 1 % 64 * 64 + bt l 2 % 64)))
    (h4 : ¬ (bt l 0 / 8 = 30 ∧ 3 < l.length ∧ bt l 1 / 64 = 2 ∧ bt l 2 / 64 = 2 ∧ bt l 3 / 64 = 2 ∧ 65536 ≤ bt l 0 % 8 * 262144 + bt l 1 % 64 * 4096 + bt l 2 % 64 * 64 + bt l 3 % 64 ∧ bt l 0 % 8 * 262144 + bt l 1 % 64 * 4096 + bt l 2 % 64 * 64 + bt l 3 % 64 ≤ 1114111)) :
    decodeL l = (65533, 1) := by
  rw [dec_bt]
  rcases decodeN_shape l.length (bt l 0) (bt l 1) (bt l 2) (bt l 3) with ⟨a, e⟩ | ⟨a1, a2, a3, a4, e⟩ | ⟨a1, a2, a3, a4, a5, a6, e⟩ | ⟨a1, a2, a3, a4, a5, a6, a7, e⟩ | e
  · exact absurd a h
  · exact absurd ⟨a1, a2, a3, a4⟩ h2
  · exact absurd ⟨a1, a2, a3, a4, a5, a6⟩ h3
  · exact absurd ⟨a1, a2, a3, a4, a5, a6, a7⟩ h4
  · exact e
def RuneOut (l : List UInt8) (c n : Int) (b : Bool) : Prop := ((decodeL l).1 : Int) = c ∧ ((decodeL l).2 : Int) = n ∧ okR l = b
theorem out_bad {l : List UInt8} (h : decodeL l = (65533, 1)) : RuneOut l 65533 1 false := ⟨by rw [h]; rfl, by rw [h]; rfl, rune_bad h⟩
theorem out_good {l : List UInt8} {c n : Nat} {c' n' : Int} (h : decodeL l = (c, n)) (h2 : 2 ≤ n) (e : c' = c) (e2 : n' = n) : RuneOut l c' n' true := by
  refine ⟨by rw [h, e], by rw [h, e2], ?_⟩
  unfold okR
  rw [h]
  simp; omega
theorem fin_out {l : List UInt8} {c n : Int} {b : Bool} (h : RuneOut l c n b) : le1 (i64 c) (i64 (decodeL l).1) ∧ le1 (i64 n) (i64 (decodeL l).2) ∧ le1 (tb b) (tb (okR l)) ∧ True := by
  obtain ⟨h1, h2, h3⟩ := h
  rw [h1, h2, h3]
  exact ⟨.inl rfl, .inl rfl, .inl rfl, trivial⟩

theorem rrune_law (l : List UInt8) (hne : l ≠ []) (hl : l.length ≤ 9223372036854775807) : FCv Tryd.prog 22 [str l] (.tup [i64 (decodeL l).1, i64 (decodeL l).2, tb (okR l)]) := by
  refine FCv_of_awp (fn := Tryd.f22) (c := bodyC Tryd.f22) Tryd.func22 rfl (of_decide_eq_true rfl) [] ?_
  conv => whnf
  have hlen : 0 < l.length := List.length_pos_iff.2 hne
  have b0 := bt_lt l 0
  have b1 := bt_lt l 1
  have b2 := bt_lt l 2
  have b3 := bt_lt l 3
  refine ⟨by omega, _, bt_get hlen, ?_⟩
  conv => whnf
  rw [show IntKind.i64.wrap ↑(({ data := l.toArray } : ByteArray).data.toList.getD (Int.toNat 0) 0).toNat = (bt l 0 : Int) from wrap_i64 _ (by omega) (by show (bt l 0 : Int) ≤ _; omega)]
  refine br_intro (fun h => ?_) (fun h => ?_) <;> (rw [h]; conv => whnf)
  · have h := of_decide_eq_true h
    have e := rune_one (l := l) (by omega)
    refine fin_out ⟨by rw [e], by rw [e]; rfl, ?_⟩
    unfold okR; rw [e]; simp; omega
  have c1 := of_decide_eq_false h
  repeat' (refine br_intro (fun h => ?_) (fun h => ?_) <;> (rw [h]; conv => whnf) <;> (try rw [str_size] at h) <;> first | replace h := of_decide_eq_true h | replace h := of_decide_eq_false h | skip)
  all_goals first | (exfalso; omega) | exact fin_out (out_bad (dec_bad (by omega) (by omega) (by omega) (by omega))) | skip
  · have hn := True.intro
    rw [wrap_i64 ((bt l 0 : Int) - 192) (by omega) (by omega)]
    refine loop_intro (fun y : { y : Nat // 1 ≤ y ∧ y ≤ 2 ∧ ∀ j, 1 ≤ j → j ≤ y - 1 → 128 ≤ bt l j ∧ bt l j ≤ 191 } => ⟨[(0, str l), (5, i64 (acc l ((bt l 0 : Int) - 192) (y.1 - 1))), (6, i64 2), (7, i64 128), (8, i64 y.1)], [], 85, 0, []⟩) (fun y => 2 - y.1) ⟨1, by omega, by omega, fun j h1 h2 => absurd h1 (by omega)⟩ ?_ ?_
    · exact Wk.intro [] rfl (fun p hp => by cases hp) ⟨.same rfl trivial, .same rfl trivial, .same rfl trivial, .same rfl trivial, .same rfl trivial, trivial⟩ trivial
    rintro ⟨k, hk1, hk2, hk3⟩
    dsimp only
    conv => whnf
    have hA := acc_le l ((bt l 0 : Int) - 192) (by omega) (by omega) (k - 1) hk3
    refine br_intro (fun h => ?_) (fun h => ?_) <;> (rw [h]; conv => whnf)
    · have hkn := of_decide_eq_true h
      have hkl : k < l.length := by omega
      refine ⟨by omega, _, bt_get hkl, ?_⟩
      conv => whnf
      have bk := bt_lt l k
      rw [show IntKind.i64.wrap ↑(({ data := l.toArray } : ByteArray).data.toList.getD (Int.toNat (k : Int)) 0).toNat = (bt l k : Int) from wrap_i64 _ (by omega) (by show (bt l k : Int) ≤ _; omega)]
      have hkc : k = 1 := by omega
      refine br_intro (fun h => ?_) (fun h => ?_) <;> (rw [h]; conv => whnf)
      · have h := of_decide_eq_true h
        rcases hkc with rfl <;> exact fin_out (out_bad (dec_bad (by omega) (by omega) (by omega) (by omega)))
      have hd1 := of_decide_eq_false h
      refine br_intro (fun h => ?_) (fun h => ?_) <;> (rw [h]; conv => whnf)
      · have h := of_decide_eq_true h
        rcases hkc with rfl <;> exact fin_out (out_bad (dec_bad (by omega) (by omega) (by omega) (by omega)))
      have hd2 := of_decide_eq_false h
      have hpow : (64 : Int) ^ (k - 1) ≤ 4096 := by rcases hkc with rfl <;> decide
      generalize hZ : (64 : Int) ^ (k - 1) = Z at hA hpow
      rw [wrap_i64 (acc l ((bt l 0 : Int) - 192) (k - 1) * 64) (by omega) (by omega), wrap_i64 (acc l ((bt l 0 : Int) - 192) (k - 1) * 64 + (bt l k : Int)) (by omega) (by omega), wrap_i64 (acc l ((bt l 0 : Int) - 192) (k - 1) * 64 + (bt l k : Int) - 128) (by omega) (by omega), wrap_i64 ((k : Int) + 1) (by omega) (by omega)]
      refine Nx.intro ⟨k + 1, by omega, by omega, fun j h1 h2 => ?_⟩ (by dsimp only; omega) ?_
      · by_cases hj : j = k
        · subst hj; omega
        · exact hk3 j h1 (by omega)
      · refine Wk.intro [] rfl (fun p hp => by cases hp) ⟨.same rfl trivial, .same (congrArg i64 ?_) trivial, .same rfl trivial, .same rfl trivial, .same rfl trivial, trivial⟩ trivial
        obtain ⟨j, rfl⟩ : ∃ j, k = j + 1 := ⟨k - 1, by omega⟩
        rfl
    · have hkn : k = 2 := by have := of_decide_eq_false h; omega
      subst hkn
      have d1 := hk3 1 (by omega) (by omega)
      obtain ⟨v, hv⟩ : ∃ v : Nat, v = (bt l 0 % 32 * 64 + bt l 1 % 64) := ⟨_, rfl⟩
      have hC : acc l ((bt l 0 : Int) - 192) (2 - 1) = (v : Int) := by simp only [acc, Nat.add_one_sub_one, Nat.reduceSub, Nat.reduceAdd]; omega
      rw [hC]
      have hG : (v < 128 ∨ v > 1114111 ∨ (v ≥ 55296 ∧ v ≤ 57343)) → decodeL l = (65533, 1) := fun h => dec_bad (by omega) (by omega) (by omega) (by omega)
      have hG2 : ¬ (v < 128 ∨ v > 1114111 ∨ (v ≥ 55296 ∧ v ≤ 57343)) → decodeL l = (v, 2) := fun h => by rw [dec_bt, hv]; exact dec2 (n := l.length) (b2 := bt l 2) (b3 := bt l 3) (by omega) (by omega) (by omega) (by omega)
      repeat' (refine br_intro (fun h => ?_) (fun h => ?_) <;> (rw [h]; conv => whnf))
      all_goals simp only [decide_eq_true_eq, decide_eq_false_iff_not, ge_iff_le, gt_iff_lt] at *
      all_goals first | exact fin_out (out_bad (hG (by omega))) | exact fin_out (out_good (hG2 (by omega)) (by omega) rfl rfl)
  · have hn := True.intro
    rw [wrap_i64 ((bt l 0 : Int) - 224) (by omega) (by omega)]
    refine loop_intro (fun y : { y : Nat // 1 ≤ y ∧ y ≤ 3 ∧ ∀ j, 1 ≤ j → j ≤ y - 1 → 128 ≤ bt l j ∧ bt l j ≤ 191 } => ⟨[(0, str l), (5, i64 (acc l ((bt l 0 : Int) - 224) (y.1 - 1))), (6, i64 3), (7, i64 2048), (8, i64 y.1)], [], 85, 0, []⟩) (fun y => 3 - y.1) ⟨1, by omega, by omega, fun j h1 h2 => absurd h1 (by omega)⟩ ?_ ?_
    · exact Wk.intro [] rfl (fun p hp => by cases hp) ⟨.same rfl trivial, .same rfl trivial, .same rfl trivial, .same rfl trivial, .same rfl trivial, trivial⟩ trivial
    rintro ⟨k, hk1, hk2, hk3⟩
    dsimp only
    conv => whnf
    have hA := acc_le l ((bt l 0 : Int) - 224) (by omega) (by omega) (k - 1) hk3
    refine br_intro (fun h => ?_) (fun h => ?_) <;> (rw [h]; conv => whnf)
    · have hkn := of_decide_eq_true h
      have hkl : k < l.length := by omega
      refine ⟨by omega, _, bt_get hkl, ?_⟩
      conv => whnf
      have bk := bt_lt l k
      rw [show IntKind.i64.wrap ↑(({ data := l.toArray } : ByteArray).data.toList.getD (Int.toNat (k : Int)) 0).toNat = (bt l k : Int) from wrap_i64 _ (by omega) (by show (bt l k : Int) ≤ _; omega)]
      have hkc : k = 1 ∨ k = 2 := by omega
      refine br_intro (fun h => ?_) (fun h => ?_) <;> (rw [h]; conv => whnf)
      · have h := of_decide_eq_true h
        rcases hkc with rfl | rfl <;> exact fin_out (out_bad (dec_bad (by omega) (by omega) (by omega) (by omega)))
      have hd1 := of_decide_eq_false h
      refine br_intro (fun h => ?_) (fun h => ?_) <;> (rw [h]; conv => whnf)
      · have h := of_decide_eq_true h
        rcases hkc with rfl | rfl <;> exact fin_out (out_bad (dec_bad (by omega) (by omega) (by omega) (by omega)))
      have hd2 := of_decide_eq_false h
      have hpow : (64 : Int) ^ (k - 1) ≤ 4096 := by rcases hkc with rfl | rfl <;> decide
      generalize hZ : (64 : Int) ^ (k - 1) = Z at hA hpow
      rw [wrap_i64 (acc l ((bt l 0 : Int) - 224) (k - 1) * 64) (by omega) (by omega), wrap_i64 (acc l ((bt l 0 : Int) - 224) (k - 1) * 64 + (bt l k : Int)) (by omega) (by omega), wrap_i64 (acc l ((bt l 0 : Int) - 224) (k - 1) * 64 + (bt l k : Int) - 128) (by omega) (by omega), wrap_i64 ((k : Int) + 1) (by omega) (by omega)]
      refine Nx.intro ⟨k + 1, by omega, by omega, fun j h1 h2 => ?_⟩ (by dsimp only; omega) ?_
      · by_cases hj : j = k
        · subst hj; omega
        · exact hk3 j h1 (by omega)
      · refine Wk.intro [] rfl (fun p hp => by cases hp) ⟨.same rfl trivial, .same (congrArg i64 ?_) trivial, .same rfl trivial, .same rfl trivial, .same rfl trivial, trivial⟩ trivial
        obtain ⟨j, rfl⟩ : ∃ j, k = j + 1 := ⟨k - 1, by omega⟩
        rfl
    · have hkn : k = 3 := by have := of_decide_eq_false h; omega
      subst hkn
      have d1 := hk3 1 (by omega) (by omega)
      have d2 := hk3 2 (by omega) (by omega)
      obtain ⟨v, hv⟩ : ∃ v : Nat, v = (bt l 0 % 16 * 4096 + bt l 1 % 64 * 64 + bt l 2 % 64) := ⟨_, rfl⟩
      have hC : acc l ((bt l 0 : Int) - 224) (3 - 1) = (v : Int) := by simp only [acc, Nat.add_one_sub_one, Nat.reduceSub, Nat.reduceAdd]; omega
      rw [hC]
      have hG : (v < 2048 ∨ v > 1114111 ∨ (v ≥ 55296 ∧ v ≤ 57343)) → decodeL l = (65533, 1) := fun h => dec_bad (by omega) (by omega) (by omega) (by omega)
      have hG2 : ¬ (v < 2048 ∨ v > 1114111 ∨ (v ≥ 55296 ∧ v ≤ 57343)) → decodeL l = (v, 3) := fun h => by rw [dec_bt, hv]; exact dec3 (n := l.length) (b3 := bt l 3) (by omega) (by omega) (by omega) (by omega) (by omega) (by omega)
      repeat' (refine br_intro (fun h => ?_) (fun h => ?_) <;> (rw [h]; conv => whnf))
      all_goals simp only [decide_eq_true_eq, decide_eq_false_iff_not, ge_iff_le, gt_iff_lt] at *
      all_goals first | exact fin_out (out_bad (hG (by omega))) | exact fin_out (out_good (hG2 (by omega)) (by omega) rfl rfl)
  · have hn := True.intro
    rw [wrap_i64 ((bt l 0 : Int) - 240) (by omega) (by omega)]
    obtain ⟨low, hlow⟩ : ∃ low : Int, low = 65536 := ⟨_, rfl⟩
    refine loop_intro (fun y : { y : Nat // 1 ≤ y ∧ y ≤ 4 ∧ ∀ j, 1 ≤ j → j ≤ y - 1 → 128 ≤ bt l j ∧ bt l j ≤ 191 } => ⟨[(0, str l), (5, i64 (acc l ((bt l 0 : Int) - 240) (y.1 - 1))), (6, i64 4), (7, i64 low), (8, i64 y.1)], [], 85, 0, []⟩) (fun y => 4 - y.1) ⟨1, by omega, by omega, fun j h1 h2 => absurd h1 (by omega)⟩ ?_ ?_
    · exact Wk.intro [] rfl (fun p hp => by cases hp) ⟨.same rfl trivial, .same rfl trivial, .same rfl trivial, .same (by rw [hlow]; rfl) trivial, .same rfl trivial, trivial⟩ trivial
    rintro ⟨k, hk1, hk2, hk3⟩
    dsimp only
    conv => whnf
    have hA := acc_le l ((bt l 0 : Int) - 240) (by omega) (by omega) (k - 1) hk3
    refine br_intro (fun h => ?_) (fun h => ?_) <;> (rw [h]; conv => whnf)
    · have hkn := of_decide_eq_true h
      have hkl : k < l.length := by omega
      refine ⟨by omega, _, bt_get hkl, ?_⟩
      conv => whnf
      have bk := bt_lt l k
      rw [show IntKind.i64.wrap ↑(({ data := l.toArray } : ByteArray).data.toList.getD (Int.toNat (k : Int)) 0).toNat = (bt l k : Int) from wrap_i64 _ (by omega) (by show (bt l k : Int) ≤ _; omega)]
      have hkc : k = 1 ∨ k = 2 ∨ k = 3 := by omega
      refine br_intro (fun h => ?_) (fun h => ?_) <;> (rw [h]; conv => whnf)
      · have h := of_decide_eq_true h
        rcases hkc with rfl | rfl | rfl <;> exact fin_out (out_bad (dec_bad (by omega) (by omega) (by omega) (by omega)))
      have hd1 := of_decide_eq_false h
      refine br_intro (fun h => ?_) (fun h => ?_) <;> (rw [h]; conv => whnf)
      · have h := of_decide_eq_true h
        rcases hkc with rfl | rfl | rfl <;> exact fin_out (out_bad (dec_bad (by omega) (by omega) (by omega) (by omega)))
      have hd2 := of_decide_eq_false h
      have hpow : (64 : Int) ^ (k - 1) ≤ 4096 := by rcases hkc with rfl | rfl | rfl <;> decide
      generalize hZ : (64 : Int) ^ (k - 1) = Z at hA hpow
      rw [wrap_i64 (acc l ((bt l 0 : Int) - 240) (k - 1) * 64) (by omega) (by omega), wrap_i64 (acc l ((bt l 0 : Int) - 240) (k - 1) * 64 + (bt l k : Int)) (by omega) (by omega), wrap_i64 (acc l ((bt l 0 : Int) - 240) (k - 1) * 64 + (bt l k : Int) - 128) (by omega) (by omega), wrap_i64 ((k : Int) + 1) (by omega) (by omega)]
      refine Nx.intro ⟨k + 1, by omega, by omega, fun j h1 h2 => ?_⟩ (by dsimp only; omega) ?_
      · by_cases hj : j = k
        · subst hj; omega
        · exact hk3 j h1 (by omega)
      · refine Wk.intro [] rfl (fun p hp => by cases hp) ⟨.same rfl trivial, .same (congrArg i64 ?_) trivial, .same rfl trivial, .same rfl trivial, .same rfl trivial, trivial⟩ trivial
        obtain ⟨j, rfl⟩ : ∃ j, k = j + 1 := ⟨k - 1, by omega⟩
        rfl
    · have hkn : k = 4 := by have := of_decide_eq_false h; omega
      subst hkn
      have d1 := hk3 1 (by omega) (by omega)
      have d2 := hk3 2 (by omega) (by omega)
      have d3 := hk3 3 (by omega) (by omega)
      obtain ⟨v, hv⟩ : ∃ v : Nat, v = (bt l 0 % 8 * 262144 + bt l 1 % 64 * 4096 + bt l 2 % 64 * 64 + bt l 3 % 64) := ⟨_, rfl⟩
      have hC : acc l ((bt l 0 : Int) - 240) (4 - 1) = (v : Int) := by simp only [acc, Nat.add_one_sub_one, Nat.reduceSub, Nat.reduceAdd]; omega
      rw [hC]
      have hG : (v < 65536 ∨ v > 1114111 ∨ (v ≥ 55296 ∧ v ≤ 57343)) → decodeL l = (65533, 1) := fun h => dec_bad (by omega) (by omega) (by omega) (by omega)
      have hG2 : ¬ (v < 65536 ∨ v > 1114111 ∨ (v ≥ 55296 ∧ v ≤ 57343)) → decodeL l = (v, 4) := fun h => by rw [dec_bt, hv]; exact dec4 (n := l.length) (by omega) (by omega) (by omega) (by omega) (by omega) (by omega) (by omega)
      repeat' (refine br_intro (fun h => ?_) (fun h => ?_) <;> (rw [h]; conv => whnf))
      all_goals simp only [decide_eq_true_eq, decide_eq_false_iff_not, ge_iff_le, gt_iff_lt] at *
      all_goals first | exact fin_out (out_bad (hG (by omega))) | exact fin_out (out_good (hG2 (by omega)) (by omega) rfl rfl)

theorem right_step {l : List UInt8} (hne : l ≠ []) : right (segs l) = (okR l && right (segs (l.drop (decodeL l).2))) := by
  rw [segs_cons hne, right_cons, bad_seg hne]; rfl
theorem len_step {l : List UInt8} (hne : l ≠ []) : (segs l).length = (segs (l.drop (decodeL l).2)).length + 1 := by
  rw [segs_cons hne, List.length_cons]
theorem len_pos {l : List UInt8} (h : (l.length : Int) > 0) : l ≠ [] := by rintro rfl; simp at h

theorem rrunes_law (l : List UInt8) (hl : l.length ≤ 9223372036854775806) : FCv Tryd.prog 12 [str l] (.tup [i64 (segs l).length, tb (right (segs l))]) := by
  refine FCv_of_awp (fn := Tryd.f12) (c := bodyC Tryd.f12) Tryd.func12 rfl (of_decide_eq_true rfl) [] ?_
  conv => whnf
  refine loop_intro (fun y : { y : List UInt8 × Nat × Bool // y.1.length ≤ l.length ∧ y.2.1 + (segs y.1).length = (segs l).length ∧ (y.2.2 && right (segs y.1)) = right (segs l) } => ⟨[(0, str y.1.1), (4, i64 y.1.2.1), (5, tb y.1.2.2)], [], 29, 0, []⟩) (fun y => y.1.1.length) ⟨(l, 0, true), by simp⟩ ?_ ?_
  · exact Wk.intro [] rfl (fun p hp => by cases hp) ⟨.same rfl trivial, .same rfl trivial, .same rfl trivial, trivial⟩ trivial
  rintro ⟨⟨c, n, r⟩, h0, h1, h2⟩
  dsimp only at h0 h1 h2 ⊢
  conv => whnf
  have hs := segs_len_le l
  (refine br_intro (fun h => ?_) (fun h => ?_) <;> (rw [h]; conv => whnf) <;> (try rw [str_size] at h) <;> first | replace h := of_decide_eq_true h | replace h := of_decide_eq_false h | skip)
  · have hne := len_pos h
    rw [len_step hne] at h1
    rw [right_step hne] at h2
    have hw := decodeL_le c hne
    have hw1 := decodeL_width c
    refine ⟨_, rrune_law c hne (by omega), ?_⟩
    conv => whnf
    refine ⟨by omega, ?_⟩
    conv => whnf
    rw [str_tail, str_size]
    refine ⟨⟨by omega, by omega⟩, ?_⟩
    conv => whnf
    rw [wrap_i64 ((n : Int) + 1) (by omega) (by omega)]
    cases r <;> conv => whnf
    · refine Nx.intro ⟨(c.drop (decodeL c).2, n + 1, false), by dsimp only; rw [List.length_drop]; omega, by dsimp only; omega, by rw [← h2]; rfl⟩ (by dsimp only; rw [List.length_drop]; omega) ?_
      exact Wk.intro [] rfl (fun p hp => by cases hp) ⟨.same rfl trivial, .same rfl trivial, .same rfl trivial, trivial⟩ trivial
    · refine Nx.intro ⟨(c.drop (decodeL c).2, n + 1, okR c), by dsimp only; rw [List.length_drop]; omega, by dsimp only; omega, by rw [← h2]; rfl⟩ (by dsimp only; rw [List.length_drop]; omega) ?_
      exact Wk.intro [] rfl (fun p hp => by cases hp) ⟨.same rfl trivial, .same rfl trivial, .same rfl trivial, trivial⟩ trivial
  · obtain rfl : c = [] := List.length_eq_zero_iff.1 (by omega)
    refine ⟨.inl (congrArg i64 ?_), .inl (congrArg tb ?_), trivial⟩
    · rw [← h1]; simp [segs_nil]
    · rw [← h2]; simp [segs_nil, right]

/-- What stands first. -/
theorem first_dash {l : List UInt8} (hne : l ≠ []) (hr : right (segs l) = true) : ((segs l).head?.map (·.1) == some 45) = ((bt l 0 : Int) == 45) := by
  rw [segs_cons hne, List.head?_cons, Option.map_some]
  have e : ((some (decodeL l).1 : Option Nat) == some 45) = ((decodeL l).1 == 45) := rfl
  rw [e, Bool.eq_iff_iff, beq_iff_eq, beq_iff_eq]
  constructor
  · intro h
    by_cases h0 : bt l 0 < 128
    · rw [rune_one h0] at h; dsimp only at h; omega
    · exfalso
      rw [dec_bt] at h
      rcases decodeN_shape l.length (bt l 0) (bt l 1) (bt l 2) (bt l 3) with ⟨a, e⟩ | ⟨a1, a2, a3, a4, e⟩ | ⟨a1, a2, a3, a4, a5, a6, e⟩ | ⟨a1, a2, a3, a4, a5, a6, a7, e⟩ | e
      all_goals (rw [e] at h; dsimp only at h; omega)
  · intro h
    rw [rune_one (by omega)]; dsimp only; omega
def mayB (l : List UInt8) : Bool := (segs l).all fun s => !barred s.1
theorem mayB_step {l : List UInt8} (hne : l ≠ []) : mayB l = (!barred (decodeL l).1 && mayB (l.drop (decodeL l).2)) := by
  unfold mayB; rw [segs_cons hne, all_cons]
theorem may_no {l : List UInt8} (h : (segs l).length < 1 ∨ 24 < (segs l).length ∨ right (segs l) = false) : may l = false := by
  cases hm : may l with
  | false => rfl
  | true =>
    exfalso
    have hr := may_right hm
    unfold may mayG at hm
    simp only [Bool.and_eq_true, decide_eq_true_eq] at hm
    rcases h with h | h | h
    · omega
    · omega
    · rw [hr] at h; cases h

theorem rmay_law (l : List UInt8) (hl : l.length ≤ 9223372036854775806) : FCv Tryd.prog 16 [str l] (tb (may l)) := by
  refine FCv_of_awp (fn := Tryd.f16) (c := bodyC Tryd.f16) Tryd.func16 rfl (of_decide_eq_true rfl) [] ?_
  conv => whnf
  refine ⟨_, rrunes_law l hl, ?_⟩
  conv => whnf
  refine br_intro (fun h => ?_) (fun h => ?_) <;> (rw [h]; conv => whnf)
  · exact .inl (congrArg tb (may_no (.inl (by have := of_decide_eq_true h; omega))).symm)
  refine br_intro (fun h2 => ?_) (fun h2 => ?_) <;> (rw [h2]; conv => whnf)
  · exact .inl (congrArg tb (may_no (.inr (.inl (by have := of_decide_eq_true h2; omega)))).symm)
  have h := of_decide_eq_false h
  have h2 := of_decide_eq_false h2
  have hne : l ≠ [] := by rintro rfl; exact h (by simp [segs_nil])
  have hlen : 0 < l.length := List.length_pos_iff.2 hne
  cases hr : right (segs l) with
  | false =>
    conv => whnf
    exact .inl (congrArg tb (may_no (.inr (.inr hr))).symm)
  | true =>
    conv => whnf
    refine ⟨by omega, _, bt_get hlen, ?_⟩
    conv => whnf
    have hf := first_dash hne hr
    have hm : may l = (mayB l && !((bt l 0 : Int) == 45)) := by
      unfold may mayG mayB
      rw [hf, decide_eq_true (by omega : 1 ≤ (segs l).length), decide_eq_true (by omega : (segs l).length ≤ 24), Bool.true_and, Bool.true_and]
    refine br_intro (fun h => ?_) (fun h => ?_) <;> (rw [h]; conv => whnf)
    · refine .inl (congrArg tb ?_)
      rw [hm, show ((bt l 0 : Int) == 45) = true from h, Bool.not_true, Bool.and_false]
    rw [show ((bt l 0 : Int) == 45) = false from h, Bool.not_false, Bool.and_true] at hm
    refine loop_intro (fun y : { y : List UInt8 // y.length ≤ l.length ∧ may l = mayB y } => ⟨[(0, str y.1)], [], 62, 0, []⟩) (fun y => y.1.length) ⟨l, Nat.le_refl _, hm⟩ ?_ ?_
    · exact Wk.intro [] rfl (fun p hp => by cases hp) ⟨.same rfl trivial, trivial⟩ trivial
    rintro ⟨c, h0, h1⟩
    dsimp only at h0 h1 ⊢
    conv => whnf
    (refine br_intro (fun h => ?_) (fun h => ?_) <;> (rw [h]; conv => whnf) <;> (try rw [str_size] at h) <;> first | replace h := of_decide_eq_true h | replace h := of_decide_eq_false h | skip)
    · have hne := len_pos h
      rw [mayB_step hne] at h1
      have hw := decodeL_le c hne
      have hw1 := decodeL_width c
      refine ⟨_, rrune_law c hne (by omega), ?_⟩
      conv => whnf
      have hb : ∀ b, barred (decodeL c).1 = b ↔ (decide (((decodeL c).1 : Int) < 33) || (decide (((decodeL c).1 : Int) ≥ 127) && decide (((decodeL c).1 : Int) ≤ 160)) || ((decodeL c).1 : Int) == 8232 || ((decodeL c).1 : Int) == 8233 || ((decodeL c).1 : Int) == 65533) = b := by
        intro b
        rw [show (decide (((decodeL c).1 : Int) < 33) || (decide (((decodeL c).1 : Int) ≥ 127) && decide (((decodeL c).1 : Int) ≤ 160)) || ((decodeL c).1 : Int) == 8232 || ((decodeL c).1 : Int) == 8233 || ((decodeL c).1 : Int) == 65533) = barred (decodeL c).1 from ?_]
        rw [Bool.eq_iff_iff, barred_iff]
        simp only [Bool.or_eq_true, Bool.and_eq_true, decide_eq_true_eq, beq_iff_eq]
        omega
      repeat' (refine br_intro (fun h => ?_) (fun h => ?_) <;> (rw [h]; conv => whnf))
      all_goals first
        | (refine .inl (congrArg tb ?_)
           rw [h1, (hb true).2 (by simp [*])]; rfl)
        | (refine ⟨by omega, ?_⟩
           conv => whnf
           rw [str_tail, str_size]
           refine ⟨⟨by omega, by omega⟩, ?_⟩
           conv => whnf
           refine Nx.intro ⟨c.drop (decodeL c).2, by rw [List.length_drop]; omega, by rw [h1, (hb false).2 (by simp [*])]; rfl⟩ (by show (c.drop (decodeL c).2).length < c.length; rw [List.length_drop]; omega) ?_
           exact Wk.intro [] rfl (fun p hp => by cases hp) ⟨.same rfl trivial, trivial⟩ trivial)
    · obtain rfl : c = [] := List.length_eq_zero_iff.1 (by omega)
      exact .inl (congrArg tb h1.symm)

theorem fold_take {l : List UInt8} {i : Nat} {c : UInt8} (h : l[i]? = some c) (d : UInt8) (hd : d = foldB c) : ((l.take i).map foldB ++ l.drop i).set i d = (l.take (i + 1)).map foldB ++ l.drop (i + 1) := by
  have hi : i < l.length := (List.getElem?_eq_some_iff.1 h).1
  have e : l.drop i = c :: l.drop (i + 1) := by rw [List.drop_eq_getElem_cons hi]; rw [List.getElem?_eq_getElem hi] at h; cases h; rfl
  rw [List.set_append_right _ _ (by simp; omega), e, List.take_add_one, h]
  simp [hd, Nat.min_eq_left (Nat.le_of_lt hi)]
theorem fold_get {l : List UInt8} {i : Nat} {c : UInt8} (h : l[i]? = some c) : ((l.take i).map foldB ++ l.drop i)[i]? = some c := by
  have hi : i < l.length := (List.getElem?_eq_some_iff.1 h).1
  rw [List.getElem?_append_right (by simp; omega)]
  simp [Nat.min_eq_left (Nat.le_of_lt hi), List.getElem?_drop, h]
theorem fold_same {l : List UInt8} {i : Nat} {c : UInt8} (h : l[i]? = some c) (hd : c = foldB c) : (l.take i).map foldB ++ l.drop i = (l.take (i + 1)).map foldB ++ l.drop (i + 1) := by
  rw [← fold_take h c hd]
  have hi : i < ((l.take i).map foldB ++ l.drop i).length := (List.getElem?_eq_some_iff.1 (fold_get h)).1
  have e : ((l.take i).map foldB ++ l.drop i)[i] = c := (List.getElem?_eq_some_iff.1 (fold_get h)).2
  conv => rhs; rw [← e]
  exact (List.set_getElem_self hi).symm
theorem rkey_law (l : List UInt8) (hl : l.length ≤ 9223372036854775806) : FCv Tryd.prog 14 [str l] (.tup [str (if may l then l.map foldB else []), i64 (if may l then 0 else 5)]) := by
  refine FCv_of_awp (fn := Tryd.f14) (c := bodyC Tryd.f14) Tryd.func14 rfl (of_decide_eq_true rfl) [10] ?_
  conv => whnf
  have hm := rmay_law l hl
  cases h : may l with
  | false =>
    rw [h] at hm
    refine ⟨_, hm, ?_⟩
    conv => whnf
    exact ⟨.inl rfl, .inl rfl, trivial⟩
  | true =>
    rw [h] at hm
    refine ⟨_, hm, ?_⟩
    conv => whnf
    refine loop_intro (fun i : { i : Nat // i ≤ l.length } => ⟨[(0, str l), (4, .sref 0 0 l.length), (5, i64 i.1)], [(0, .own 1 (bytesR ((l.take i.1).map foldB ++ l.drop i.1)))], 37, 1, [10]⟩) (fun i => l.length - i.1) ⟨0, Nat.zero_le _⟩ ?_ ?_
    · refine Wk.intro [] rfl (fun p hp => by cases hp) ⟨.same rfl trivial, .same (congrArg (T.sref 0 0) (str_size l)) (by exact rfl), .same rfl trivial, trivial⟩ ⟨⟨rfl, .inl ⟨?_, bytesR_blt _ _⟩⟩, trivial⟩
      simp [Mem.get]
    rintro ⟨i, hi⟩
    dsimp only
    conv => whnf
    (refine br_intro (fun h => ?_) (fun h => ?_) <;> (rw [h]; conv => whnf) <;> (try rw [str_size] at h) <;> first | replace h := of_decide_eq_true h | replace h := of_decide_eq_false h | skip)
    · have hi2 : i < l.length := by omega
      obtain ⟨c, hc⟩ : ∃ c, l[i]? = some c := ⟨_, List.getElem?_eq_getElem hi2⟩
      have hcl := c.toNat_lt
      have hg := bytes_get (fold_get hc)
      refine ⟨⟨by omega, by omega⟩, ?_⟩
      conv => whnf
      refine nthK_intro (by rw [Nat.zero_add, Int.toNat_natCast]; exact hg) ?_
      conv => whnf
      have hend : ∀ z : Int, z = ((foldB c).toNat : Int) → (bytesR ((l.take i).map foldB ++ l.drop i)).set i [.lit (.int .u8 z)] = bytesR ((l.take (i + 1)).map foldB ++ l.drop (i + 1)) := by
        rintro z rfl
        rw [bytesR_setB, fold_take hc _ rfl]
      have hix : (bytesR ((l.take i).map foldB ++ l.drop i))[0 + Int.toNat (i : Int)]? = some [.lit (.int .u8 c.toNat)] := by rw [Nat.zero_add, Int.toNat_natCast]; exact hg
      have hinc : IntKind.i64.wrap ((i : Int) + 1) = ((i + 1 : Nat) : Int) := by rw [wrap_i64 _ (by omega) (by omega)]; omega
      have hno : ¬ (65 ≤ c.toNat ∧ c.toNat ≤ 90) → c = foldB c := fun h => by unfold foldB; rw [if_neg h]
      refine br_intro (fun h => ?_) (fun h => ?_) <;> (rw [h]; conv => whnf)
      · have h2 := of_decide_eq_true h
        refine ⟨⟨by omega, by omega⟩, nthK_intro hix ?_⟩
        conv => whnf
        refine br_intro (fun h => ?_) (fun h => ?_) <;> (rw [h]; conv => whnf)
        · have h3 := of_decide_eq_true h
          refine ⟨⟨by omega, by omega⟩, nthK_intro hix ?_⟩
          conv => whnf
          refine ⟨⟨by omega, by omega⟩, nthK_intro hix ?_⟩
          conv => whnf
          rw [hinc]
          refine Nx.intro ⟨i + 1, by omega⟩ (by dsimp only; omega) ?_
          refine Wk.intro [] rfl (fun p hp => by cases hp) ⟨.same rfl trivial, .same rfl (by exact rfl), .same rfl trivial, trivial⟩ ⟨⟨rfl, .inl ⟨?_, bytesR_blt _ _⟩⟩, trivial⟩
          show some (Blk.own 1 ((bytesR ((l.take i).map foldB ++ l.drop i)).set (0 + Int.toNat (i : Int)) [.lit (.int .u8 (IntKind.u8.wrap ((c.toNat : Int) + 32)))])) = _
          rw [Nat.zero_add, Int.toNat_natCast, hend]
          unfold foldB
          rw [if_pos (by omega), UInt8.toNat_add, show (c.toNat : Int) + 32 = ((c.toNat + 32 : Nat) : Int) from rfl, wrap_mod .u8 rfl]
          rfl
        · have h3 := of_decide_eq_false h
          rw [hinc]
          refine Nx.intro ⟨i + 1, by omega⟩ (by dsimp only; omega) ?_
          refine Wk.intro [] rfl (fun p hp => by cases hp) ⟨.same rfl trivial, .same rfl (by exact rfl), .same rfl trivial, trivial⟩ ⟨⟨rfl, .inl ⟨?_, bytesR_blt _ _⟩⟩, trivial⟩
          rw [← fold_same hc (hno (by omega))]; rfl
      · have h2 := of_decide_eq_false h
        rw [hinc]
        refine Nx.intro ⟨i + 1, by omega⟩ (by dsimp only; omega) ?_
        refine Wk.intro [] rfl (fun p hp => by cases hp) ⟨.same rfl trivial, .same rfl (by exact rfl), .same rfl trivial, trivial⟩ ⟨⟨rfl, .inl ⟨?_, bytesR_blt _ _⟩⟩, trivial⟩
        rw [← fold_same hc (hno (by omega))]; rfl
    · obtain rfl : i = l.length := by omega
      rw [List.take_length, List.drop_length, List.append_nil]
      refine ⟨by rw [bytesR_len, List.length_map]; omega, l.map foldB, ⟨rfl, ?_⟩, ?_⟩
      · rw [List.drop_zero]; exact List.take_of_length_le (by rw [bytesR_len, List.length_map]; exact Nat.le_refl _)
      conv => whnf
      exact ⟨.inl rfl, .inl rfl, trivial⟩

theorem rcut_law (l : List UInt8) (n : Int) (hl : l.length ≤ 9223372036854775807) (h1 : -9223372036854775808 ≤ n) (h2 : n ≤ 9223372036854775807) : FCv Tryd.prog 18 [str l, i64 n] (str (cut l n)) := by
  refine FCv_of_awp (fn := Tryd.f18) (c := bodyC Tryd.f18) Tryd.func18 rfl (of_decide_eq_true rfl) [] ?_
  conv => whnf
  refine loop_intro (fun y : { y : Nat × Int // y.1 ≤ l.length ∧ y.2 ≤ n ∧ -9223372036854775808 ≤ y.2 ∧ cut l n = l.take y.1 ++ cat ((segs (l.drop y.1)).take y.2.toNat) } => ⟨[(0, str l), (1, i64 y.1.2), (5, i64 y.1.1)], [], 33, 0, []⟩) (fun y => l.length - y.1.1) ⟨(0, n), by simp [cut, h1]⟩ ?_ ?_
  · exact Wk.intro [] rfl (fun p hp => by cases hp) ⟨.same rfl trivial, .same rfl trivial, .same rfl trivial, trivial⟩ trivial
  rintro ⟨⟨p, m⟩, h0, h3, h4, h5⟩
  dsimp only at h0 h3 h4 h5 ⊢
  conv => whnf
  have hend : (m ≤ 0 ∨ ¬ p < l.length) → l.take p = cut l n := by
    rintro (h | h)
    · rw [h5, show m.toNat = 0 by omega]; simp [cat]
    · rw [h5, segs_end h]; simp [cat]
  (refine br_intro (fun h => ?_) (fun h => ?_) <;> (rw [h]; conv => whnf) <;> (try rw [str_size] at h) <;> first | replace h := of_decide_eq_true h | replace h := of_decide_eq_false h | skip)
  · (refine br_intro (fun h => ?_) (fun h => ?_) <;> (rw [h]; conv => whnf) <;> (try rw [str_size] at h) <;> first | replace h := of_decide_eq_true h | replace h := of_decide_eq_false h | skip)
    · have hp : p < l.length := by omega
      rw [segs_at hp] at h5
      obtain ⟨hw1, hw2⟩ := width_le hp
      refine ⟨by omega, ?_⟩
      conv => whnf
      rw [str_tail, str_size]
      refine ⟨⟨by omega, by omega⟩, ?_⟩
      conv => whnf
      refine ⟨_, rrune_law _ (ne_drop hp) (by rw [List.length_drop]; omega), ?_⟩
      conv => whnf
      rw [wrap_i64 ((p : Int) + ((decodeL (l.drop p)).2 : Int)) (by omega) (by omega), wrap_i64 (m - 1) (by omega) (by omega)]
      refine Nx.intro ⟨(p + (decodeL (l.drop p)).2, m - 1), by dsimp only; omega, by dsimp only; omega, by dsimp only; omega, ?_⟩ (by dsimp only; omega) ?_
      · dsimp only
        rw [h5, show m.toNat = (m - 1).toNat + 1 by omega, List.take_succ_cons, cat, ← List.append_assoc, List.take_add]
      exact Wk.intro [] rfl (fun p hp => by cases hp) ⟨.same rfl trivial, .same rfl trivial, .same rfl trivial, trivial⟩ trivial
    · refine ⟨by omega, ?_⟩
      conv => whnf
      rw [str_size, str_ext, Int.toNat_natCast]
      refine ⟨⟨Nat.zero_le _, by omega⟩, ?_⟩
      conv => whnf
      exact .inl (congrArg str (hend (.inr (by omega))))
  · refine ⟨by omega, ?_⟩
    conv => whnf
    rw [str_size, str_ext, Int.toNat_natCast]
    refine ⟨⟨Nat.zero_le _, by omega⟩, ?_⟩
    conv => whnf
    exact .inl (congrArg str (hend (.inl (by omega))))

theorem rless_law (a b : List UInt8) (hl : a.length ≤ 9223372036854775807) (hm : b.length ≤ 9223372036854775807) : FCv Tryd.prog 20 [str a, str b] (tb (less a b)) := by
  refine FCv_of_awp (fn := Tryd.f20) (c := bodyC Tryd.f20) Tryd.func20 rfl (of_decide_eq_true rfl) [] ?_
  conv => whnf
  refine loop_intro (fun y : { y : List UInt8 × List UInt8 // y.1.length ≤ a.length ∧ y.2.length ≤ b.length ∧ less a b = less y.1 y.2 } => ⟨[(0, str y.1.1), (1, str y.1.2)], [], 51, 0, []⟩) (fun y => y.1.1.length) ⟨(a, b), Nat.le_refl _, Nat.le_refl _, rfl⟩ ?_ ?_
  · exact Wk.intro [] rfl (fun p hp => by cases hp) ⟨.same rfl trivial, .same rfl trivial, trivial⟩ trivial
  rintro ⟨⟨c, d⟩, h2, h3, h1⟩
  dsimp only at h1 h2 h3 ⊢
  conv => whnf
  (refine br_intro (fun h => ?_) (fun h => ?_) <;> (rw [h]; conv => whnf) <;> (try rw [str_size] at h) <;> first | replace h := of_decide_eq_true h | replace h := of_decide_eq_false h | skip)
  · have hcn := len_pos h
    (refine br_intro (fun h => ?_) (fun h => ?_) <;> (rw [h]; conv => whnf) <;> (try rw [str_size] at h) <;> first | replace h := of_decide_eq_true h | replace h := of_decide_eq_false h | skip)
    · have hdn := len_pos h
      refine ⟨_, rrune_law c hcn (by omega), ?_⟩
      conv => whnf
      refine ⟨_, rrune_law d hdn (by omega), ?_⟩
      conv => whnf
      have hl : less a b = if (decodeL c).1 = (decodeL d).1 then less (c.drop (decodeL c).2) (d.drop (decodeL d).2) else decide ((decodeL c).1 < (decodeL d).1) := by
        rw [h1]; unfold less; rw [rns_cons hcn, rns_cons hdn]; rfl
      have hw1 := decodeL_le c hcn
      have hw2 := decodeL_le d hdn
      have hw := decodeL_width c
      refine br_intro (fun h => ?_) (fun h => ?_) <;> (rw [h]; conv => whnf)
      · rw [bne_iff_ne] at h
        refine .inl (congrArg tb ?_)
        rw [hl, if_neg (by omega)]
        exact decide_eq_decide.2 (by omega)
      · rw [bne_eq_false_iff_eq] at h
        refine ⟨by omega, ?_⟩
        conv => whnf
        rw [str_tail, str_size]
        refine ⟨⟨by omega, by omega⟩, ?_⟩
        conv => whnf
        refine ⟨by omega, ?_⟩
        conv => whnf
        rw [str_tail, str_size]
        refine ⟨⟨by omega, by omega⟩, ?_⟩
        conv => whnf
        have hlt : 0 < c.length := List.length_pos_iff.2 hcn
        refine Nx.intro ⟨(c.drop (decodeL c).2, d.drop (decodeL d).2), by dsimp only; rw [List.length_drop]; omega, by dsimp only; rw [List.length_drop]; omega, by rw [hl, if_pos (by omega)]⟩ (by dsimp only; rw [List.length_drop]; omega) ?_
        exact Wk.intro [] rfl (fun p hp => by cases hp) ⟨.same rfl trivial, .same rfl trivial, trivial⟩ trivial
    · obtain rfl : d = [] := List.length_eq_zero_iff.1 (by omega)
      rw [str_size, show (((c.length : Int)) == 0) = false from beq_eq_false_iff_ne.2 (by have := List.length_pos_iff.2 hcn; omega)]
      conv => whnf
      refine .inl (congrArg tb ?_)
      rw [h1]
      unfold less; rw [rns_cons hcn]; rfl
  · obtain rfl : c = [] := List.length_eq_zero_iff.1 (by omega)
    refine .inl (congrArg tb ?_)
    rw [h1, str_size]
    cases d with
    | nil => rfl
    | cons x r =>
      unfold less; rw [rns_cons (List.cons_ne_nil x r)]
      exact decide_eq_true (by simp)

end Go.AW.Nam
