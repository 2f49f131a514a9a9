import Derived.Test.YtmobiphgmdigjaaNamN1
import Derived.Test.YtmobiphgmdigjaaAw27
import Derived.Test.YtmobiphgmdigjaaProg
/- Names: the program's functions, walked. -/
set_option linter.unusedVariables false
set_option linter.unusedSimpArgs false
namespace Go.AW.Nam
open Go Go.AW Go.Proofs Go.Lib Go.RowKit
set_option maxRecDepth 10000
set_option pp.maxSteps 60

def str (l : List UInt8) : T := .lit (.string ⟨l.toArray⟩)
def i32 (c : Nat) : T := .lit (.int .i32 (c : Int))
theorem str_size (l : List UInt8) : ByteArray.size ⟨l.toArray⟩ = l.length := by simp [ByteArray.size]
theorem str_ext (l : List UInt8) (a b : Nat) : ByteArray.extract ⟨l.toArray⟩ a b = ⟨((l.drop a).take (b - a)).toArray⟩ := by
  apply ByteArray.ext
  apply Array.ext'
  rw [extract_data]
theorem dec_at (l : List UInt8) (pos : Nat) : Utf8.decode ⟨l.toArray⟩ pos = decodeL (l.drop pos) := (decodeL_drop ⟨l.toArray⟩ pos).symm
theorem str_tail (l : List UInt8) (p : Nat) : ByteArray.extract ⟨l.toArray⟩ (Int.toNat (p : Int)) (ByteArray.size ⟨l.toArray⟩) = ⟨(l.drop p).toArray⟩ := by
  rw [str_ext, str_size, Int.toNat_natCast, List.take_of_length_le (by rw [List.length_drop]; exact Nat.le_refl _)]
theorem ne_drop {l : List UInt8} {p : Nat} (h : p < l.length) : l.drop p ≠ [] := by
  intro e
  have := congrArg List.length e
  rw [List.length_drop] at this
  simp at this; omega
theorem beq_int (k n : Nat) : ((n : Int) == (k : Int)) = (n == k) := by
  rw [Bool.eq_iff_iff, beq_iff_eq, beq_iff_eq]; omega
theorem wrap32 (n : Int) (h1 : -2147483648 ≤ n) (h2 : n ≤ 2147483647) : IntKind.i32.wrap n = n := by
  have e1 : (2 : Int) ^ IntKind.i32.bits = 4294967296 := by decide
  have e2 : (2 : Int) ^ (IntKind.i32.bits - 1) = 2147483648 := by decide
  simp only [IntKind.wrap, e1, e2, show IntKind.i32.signed = true from rfl, Bool.true_and, decide_eq_true_eq]
  split <;> rename_i h0 <;> omega
theorem barred_iff (c : Nat) : barred c = true ↔ c < 33 ∨ (127 ≤ c ∧ c ≤ 160) ∨ c = 8232 ∨ c = 8233 ∨ c = 65533 := by simp [barred, or_assoc]

theorem barred_law (c : Nat) : FCv Try.prog 62 [i32 c] (tb (barred c)) := by
  refine FCv_of_awp (fn := Try.f62) (c := bodyC Try.f62) Try.func62 rfl (of_decide_eq_true rfl) [] ?_
  conv => whnf
  repeat' (refine br_intro (fun h => ?_) (fun h => ?_) <;> (rw [h]; conv => whnf))
  all_goals (refine .inl (congrArg tb (Bool.eq_iff_iff.2 ?_)); rw [barred_iff]; simp only [decide_eq_true_eq, decide_eq_false_iff_not, beq_iff_eq, beq_eq_false_iff_ne, ne_eq, true_iff] at *; first | omega | (simp; omega))

/-- A call that is told of with `Below` is one of data. -/
theorem FCv_below {P : Program} {f : FuncId} {ts : List T} {o : T} {vs : List Value} {v : Value} (hargs : ∀ (X : Xs) (w : World) (args : List Value), ts.length = args.length → (∀ (i : Nat) (t : T) (v : Value), ts[i]? = some t → args[i]? = some v → VRel X (fun _ => none) w t v) → args = vs)
    (hv : ∀ X w, VRel X (fun _ => none) w o v)
    (h : ∀ X w, GOk X w → Calls P f vs.toArray w fun e w' => e = .returned v ∧ Below w.heap.size w w') : FCv P f ts o := by
  intro X w args hX hG hlen ha
  obtain rfl := hargs X w args hlen ha
  refine (h X w hG).mono ?_
  rintro e w' ⟨rfl, hb⟩
  exact ⟨v, X, rfl, fun b off hx => ⟨hx, World.cell?_of_block (hb.block b (hX b off hx))⟩, ⟨hb.size, hb.os, hb.output, hb.tape, fun b hb1 _ => hb.block b hb1⟩, fun b off hx => ⟨Nat.lt_of_lt_of_le (hX b off hx) hb.size, .inl hx⟩, hv X w'⟩
theorem lt_str {l : List UInt8} {p : Nat} (h : p < l.length) : decide (p < ByteArray.size ⟨l.toArray⟩) = true := by rw [str_size]; exact decide_eq_true h
theorem ge_str {l : List UInt8} {p : Nat} (h : ¬ p < l.length) : decide (p < ByteArray.size ⟨l.toArray⟩) = false := by rw [str_size]; exact decide_eq_false h
theorem segs_at {l : List UInt8} {p : Nat} (h : p < l.length) : segs (l.drop p) = ((decodeL (l.drop p)).1, (l.drop p).take (decodeL (l.drop p)).2) :: segs (l.drop (p + (decodeL (l.drop p)).2)) := by
  rw [segs_cons (ne_drop h), List.drop_drop]
theorem segs_end {l : List UInt8} {p : Nat} (h : ¬ p < l.length) : segs (l.drop p) = [] := by
  rw [List.drop_of_length_le (by omega)]; rfl
theorem width_le {l : List UInt8} {p : Nat} (h : p < l.length) : 1 ≤ (decodeL (l.drop p)).2 ∧ p + (decodeL (l.drop p)).2 ≤ l.length := by
  have := decodeL_le _ (ne_drop h)
  rw [List.length_drop] at this
  exact ⟨decodeL_width _, by omega⟩
theorem segs_small {l : List UInt8} (hl : l.length ≤ 9223372036854775806) (p : Nat) : (segs (l.drop p)).length ≤ 9223372036854775806 := by
  have := segs_len_le (l.drop p)
  rw [List.length_drop] at this
  omega

theorem all_cons {s : Nat × List UInt8} {g : List (Nat × List UInt8)} : ((s :: g).all fun s => !barred s.1) = (!barred s.1 && g.all fun s => !barred s.1) := List.all_cons
theorem may_law (l : List UInt8) (hl : l.length ≤ 9223372036854775806) : FCv Try.prog 52 [str l] (tb (may l)) := by
  refine FCv_of_awp (fn := Try.f52) (c := bodyC Try.f52) Try.func52 rfl (of_decide_eq_true rfl) [] ?_
  conv => whnf
  refine loop_intro (fun y : { y : Nat × Nat // y.2 ≤ 24 ∧ may l = (decide (1 ≤ y.2 + (segs (l.drop y.1)).length) && decide (y.2 + (segs (l.drop y.1)).length ≤ 24) && ((segs (l.drop y.1)).all fun s => !barred s.1) && !(y.1 == 0 && ((segs (l.drop y.1)).head?.map (·.1) == some 45))) } => ⟨[(0, str l), (3, i64 y.1.2), (7, .itr 0)], [(0, .iter ⟨l.toArray⟩ y.1.1)], 30, 1, []⟩) (fun y => l.length - y.1.1) ⟨(0, 0), by simp [may, mayG]⟩ ?_ ?_
  · exact Wk.intro [] rfl (fun p hp => by cases hp) ⟨.same rfl trivial, .same rfl trivial, .same rfl (by exact rfl), trivial⟩ ⟨⟨rfl, .inl ⟨rfl, trivial⟩⟩, trivial⟩
  rintro ⟨⟨p, n⟩, h1, h2⟩
  dsimp only at h1 h2 ⊢
  conv => whnf
  by_cases hp : p < l.length
  · rw [lt_str hp, dec_at]
    rw [segs_at hp, List.length_cons, all_cons, List.head?_cons, Option.map_some] at h2
    obtain ⟨hw1, hw2⟩ := width_le hp
    have hn : (IntKind.i64.wrap ((n : Int) + 1)) = ((n + 1 : Nat) : Int) := by rw [wrap_i64 _ (by omega) (by omega)]; omega
    conv => whnf
    rw [hn]
    refine br_intro (fun h => ?_) (fun h => ?_) <;> (rw [h]; conv => whnf)
    · have h := of_decide_eq_true h
      refine .inl (congrArg tb ?_)
      rw [h2, decide_eq_false (by omega : ¬ n + ((segs (l.drop (p + (decodeL (l.drop p)).2))).length + 1) ≤ 24), Bool.and_false, Bool.false_and, Bool.false_and]
    have h := of_decide_eq_false h
    refine ⟨_, barred_law _, ?_⟩
    conv => whnf
    cases hb : barred (decodeL (l.drop p)).1 with
    | true =>
      conv => whnf
      refine .inl (congrArg tb ?_)
      rw [h2, hb, Bool.not_true, Bool.false_and, Bool.and_false, Bool.false_and]
    | false =>
      rw [hb, Bool.not_false, Bool.true_and] at h2
      conv => whnf
      have hnext : ∀ (hc : (p == 0 && (decodeL (l.drop p)).1 == 45) = false), may l = (decide (1 ≤ (n + 1) + (segs (l.drop (p + (decodeL (l.drop p)).2))).length) && decide ((n + 1) + (segs (l.drop (p + (decodeL (l.drop p)).2))).length ≤ 24) && ((segs (l.drop (p + (decodeL (l.drop p)).2))).all fun s => !barred s.1) && !((p + (decodeL (l.drop p)).2) == 0 && ((segs (l.drop (p + (decodeL (l.drop p)).2))).head?.map (·.1) == some 45))) := by
        intro hc
        have e : (some (decodeL (l.drop p)).1 == some 45) = ((decodeL (l.drop p)).1 == 45) := rfl
        rw [h2, e, hc, show ((p + (decodeL (l.drop p)).2) == 0) = false from beq_eq_false_iff_ne.2 (by omega), Bool.false_and, Nat.add_right_comm n 1, Nat.add_assoc n]
      refine br_intro (fun h3 => ?_) (fun h3 => ?_) <;> (rw [h3]; conv => whnf)
      · have h3' : p = 0 := by have := beq_iff_eq.1 h3; omega
        refine br_intro (fun h4 => ?_) (fun h4 => ?_) <;> (rw [h4]; conv => whnf)
        · refine .inl (congrArg tb ?_)
          have h4 : (decodeL (l.drop p)).1 = 45 := by have := beq_iff_eq.1 h4; omega
          rw [h2, h4, h3']; simp
        · refine Nx.intro ⟨(p + (decodeL (l.drop p)).2, n + 1), by dsimp only; omega, hnext ?_⟩ (by dsimp only; omega) ?_
          · rw [show ((decodeL (l.drop p)).1 == 45) = false from beq_eq_false_iff_ne.2 (by have := beq_eq_false_iff_ne.1 h4; omega), Bool.and_false]
          exact Wk.intro [] rfl (fun p hp => by cases hp) ⟨.same rfl trivial, .same rfl trivial, .same rfl (by exact rfl), trivial⟩ ⟨⟨rfl, .inl ⟨rfl, trivial⟩⟩, trivial⟩
      · refine Nx.intro ⟨(p + (decodeL (l.drop p)).2, n + 1), by dsimp only; omega, hnext ?_⟩ (by dsimp only; omega) ?_
        · rw [show (p == 0) = false from beq_eq_false_iff_ne.2 (by have := beq_eq_false_iff_ne.1 h3; omega), Bool.false_and]
        exact Wk.intro [] rfl (fun p hp => by cases hp) ⟨.same rfl trivial, .same rfl trivial, .same rfl (by exact rfl), trivial⟩ ⟨⟨rfl, .inl ⟨rfl, trivial⟩⟩, trivial⟩
  · rw [ge_str hp]
    rw [segs_end hp] at h2
    conv => whnf
    refine .inl (congrArg tb ?_)
    rw [h2]
    simp only [List.length_nil, Nat.add_zero, List.all_nil, List.head?_nil, Option.map_none, Bool.and_true, gt_iff_lt]
    rw [decide_eq_true h1, show ((none : Option Nat) == some 45) = false from rfl, Bool.and_false, Bool.not_false, Bool.and_true, Bool.and_true]
    exact decide_eq_decide.2 (by omega)

theorem enc_eq (c : Nat) (h : c ≤ 1114111) : Utf8.encode (c : Int) = ⟨(encodeRune (c : Int)).toArray⟩ := by
  have hb : ∀ (z : Int) (n : Nat), z = (n : Int) → z.toNat.toUInt8 = UInt8.ofNat n := by rintro z n rfl; simp
  by_cases hs : 55296 ≤ c ∧ c ≤ 57343
  · have hv : Utf8.valid (c : Int) = false := by unfold Utf8.valid; simp; omega
    unfold encodeRune
    rw [encodeRuneZ_bad (.inr (.inl (by omega)))]
    unfold Utf8.encode
    rw [hv]
    simp only [Bool.false_eq_true, if_false, Utf8.runeError]
    decide
  have hv : Utf8.valid (c : Int) = true := by unfold Utf8.valid; simp; omega
  unfold encodeRune Utf8.encode
  rw [hv, if_pos rfl, Int.toNat_natCast]
  by_cases h1 : c < 128
  · rw [encodeRuneZ_one (by omega) (by omega)]
    simp only [if_pos h1, List.map_cons, List.map_nil]
    rw [hb _ c rfl]
  by_cases h2 : c < 2048
  · rw [encodeRuneZ_two (by omega) (by omega)]
    simp only [if_neg h1, if_pos h2, List.map_cons, List.map_nil]
    rw [hb _ (192 + c / 64) (by omega), hb _ (128 + c % 64) (by omega)]
  by_cases h3 : c < 65536
  · rw [encodeRuneZ_three (by omega)]
    simp only [if_neg h1, if_neg h2, if_pos h3, List.map_cons, List.map_nil]
    rw [hb _ (224 + c / 4096) (by omega), hb _ (128 + c / 64 % 64) (by omega), hb _ (128 + c % 64) (by omega)]
  · rw [encodeRuneZ_four (by omega) (by omega)]
    simp only [if_neg h1, if_neg h2, if_neg h3, List.map_cons, List.map_nil]
    rw [hb _ (240 + c / 262144) (by omega), hb _ (128 + c / 4096 % 64) (by omega), hb _ (128 + c / 64 % 64) (by omega), hb _ (128 + c % 64) (by omega)]
/-- Runes, written one behind the other. -/
theorem enc_cat (g : List (Nat × List UInt8)) (a : List UInt8) (h : ∀ s ∈ g, s.1 ≤ 1114111 ∧ encodeRune (s.1 : Int) = s.2) :
    (g.map fun s => (s.1 : Int)).foldl (fun a c => a ++ Utf8.encode c) ⟨a.toArray⟩ = ⟨(a ++ cat g).toArray⟩ := by
  induction g generalizing a with
  | nil => simp [cat]
  | cons s r ih =>
    obtain ⟨h1, h2⟩ := h s (by simp)
    have e : (⟨a.toArray⟩ : ByteArray) ++ Utf8.encode (s.1 : Int) = ⟨(a ++ s.2).toArray⟩ := by
      rw [enc_eq _ h1, h2]
      apply ByteArray.ext
      apply Array.ext'
      simp
    rw [List.map_cons, List.foldl_cons, e, ih _ (fun s hs => h s (by simp [hs])), cat, List.append_assoc]

theorem empty_ne (l : List UInt8) : (!(ByteArray.toList ⟨l.toArray⟩ == ByteArray.toList ⟨#[]⟩)) = !l.isEmpty := by
  congr 1
  rw [toList_data, toList_data, Bool.eq_iff_iff, beq_iff_eq, List.isEmpty_iff]
theorem empty_eq (l : List UInt8) : (ByteArray.toList ⟨l.toArray⟩ == ByteArray.toList ⟨#[]⟩) = l.isEmpty := by
  rw [toList_data, toList_data, Bool.eq_iff_iff, beq_iff_eq, List.isEmpty_iff]
theorem rns_cons {l : List UInt8} (hne : l ≠ []) : rns l = (decodeL l).1 :: rns (l.drop (decodeL l).2) := by
  unfold rns; rw [segs_cons hne]; rfl
theorem str_tail0 (l : List UInt8) (p : Nat) : ByteArray.extract ⟨l.toArray⟩ (Int.toNat (p : Int)) (ByteArray.size ⟨l.toArray⟩) = ⟨(l.drop p).toArray⟩ := str_tail l p
end Go.AW.Nam

/- Names: the reference's functions, walked. -/
set_option linter.unusedVariables false
set_option linter.unusedSimpArgs false
namespace Go.AW.Nam
open Go Go.AW Go.Proofs Go.Lib Go.RowKit
set_option maxRecDepth 10000
set_option pp.maxSteps 60

def bt (l : List UInt8) (k : Nat) : Nat := (l.getD k 0).toNat
theorem bt_lt (l : List UInt8) (k : Nat) : bt l k < 256 := (l.getD k 0).toNat_lt
theorem bt_get {l : List UInt8} {k : Nat} (h : k < l.length) : l[k]? = some (l.getD k 0) := by simp [List.getD, h]
def okR (l : List UInt8) : Bool := !((decodeL l).1 == 65533 && (decodeL l).2 == 1)
theorem dec_bt (l : List UInt8) : decodeL l = decodeN l.length (bt l 0) (bt l 1) (bt l 2) (bt l 3) := decodeL_N l
theorem rune_bad {l : List UInt8} (h : decodeL l = (65533, 1)) : okR l = false := by unfold okR; rw [h]; rfl
theorem rune_one {l : List UInt8} (h : bt l 0 < 128) : decodeL l = (bt l 0, 1) := by rw [dec_bt]; exact decodeN_ascii _ _ _ _ _ h
/-- What the reference has after some bytes more. -/
def acc (l : List UInt8) (c : Int) : Nat → Int
  | 0 => c
  | k + 1 => acc l c k * 64 + bt l (k + 1) - 128
theorem acc_le (l : List UInt8) (c : Int) (h0 : 0 ≤ c) (h1 : c ≤ 31) : ∀ k, (∀ j, 1 ≤ j → j ≤ k → 128 ≤ bt l j ∧ bt l j ≤ 191) → 0 ≤ acc l c k ∧ acc l c k ≤ 32 * 64 ^ k - 1
  | 0, _ => ⟨h0, by simp [acc]; omega⟩
  | k + 1, h => by
    obtain ⟨h2, h3⟩ := acc_le l c h0 h1 k fun j hj hk => h j hj (by omega)
    have h4 := h (k + 1) (by omega) (by omega)
    have e : (64 : Int) ^ (k + 1) = 64 ^ k * 64 := Int.pow_succ ..
    simp only [acc, e]
    generalize (64 : Int) ^ k = z at *
    omega
theorem dec_bad {l : List UInt8} (h : ¬ bt l 0 < 128) (h2 : ¬ (bt l 0 / 32 = 6 ∧ 1 < l.length ∧ bt l 1 / 64 = 2 ∧ 128 ≤ bt l 0 % 32 * 64 + bt l 1 % 64))
    (h3 : ¬ (bt l 0 / 16 = 14 ∧ 2 < l.length ∧ bt l 1 / 64 = 2 ∧ bt l 2 / 64 = 2 ∧ 2048 ≤ bt l 0 % 16 * 4096 + bt l 1 % 64 * 64 + bt l 2 % 64 ∧ (bt l 0 % 16 * 4096 + bt l 1 % 64 * 64 + bt l 2 % 64 < 55296 ∨ 57344 ≤ bt l 0 % 16 * 4096 + bt l 1 % 64 * 64 + bt l 2 % 64)))
    (h4 : ¬ (bt l 0 / 8 = 30 ∧ 3 < l.length ∧ bt l 1 / 64 = 2 ∧ bt l 2 / 64 = 2 ∧ bt l 3 / 64 = 2 ∧ 65536 ≤ bt l 0 % 8 * 262144 + bt l 1 % 64 * 4096 + bt l 2 % 64 * 64 + bt l 3 % 64 ∧ bt l 0 % 8 * 262144 + bt l 1 % 64 * 4096 + bt l 2 % 64 * 64 + bt l 3 % 64 ≤ 1114111)) :
    decodeL l = (65533, 1) := by
  rw [dec_bt]
  rcases decodeN_shape l.length (bt l 0) (bt l 1) (bt l 2) (bt l 3) with ⟨a, e⟩ | ⟨a1, a2, a3, a4, e⟩ | ⟨a1, a2, a3, a4, a5, a6, e⟩ | ⟨a1, a2, a3, a4, a5, a6, a7, e⟩ | e
  · exact absurd a h
  · exact absurd ⟨a1, a2, a3, a4⟩ h2
  · exact absurd ⟨a1, a2, a3, a4, a5, a6⟩ h3
  · exact absurd ⟨a1, a2, a3, a4, a5, a6, a7⟩ h4
  · exact e
def RuneOut (l : List UInt8) (c n : Int) (b : Bool) : Prop := ((decodeL l).1 : Int) = c ∧ ((decodeL l).2 : Int) = n ∧ okR l = b
theorem out_bad {l : List UInt8} (h : decodeL l = (65533, 1)) : RuneOut l 65533 1 false := ⟨by rw [h]; rfl, by rw [h]; rfl, rune_bad h⟩
theorem out_good {l : List UInt8} {c n : Nat} {c' n' : Int} (h : decodeL l = (c, n)) (h2 : 2 ≤ n) (e : c' = c) (e2 : n' = n) : RuneOut l c' n' true := by
  refine ⟨by rw [h, e], by rw [h, e2], ?_⟩
  unfold okR
  rw [h]
  simp; omega
theorem fin_out {l : List UInt8} {c n : Int} {b : Bool} (h : RuneOut l c n b) : le1 (i64 c) (i64 (decodeL l).1) ∧ le1 (i64 n) (i64 (decodeL l).2) ∧ le1 (tb b) (tb (okR l)) ∧ True := by
  obtain ⟨h1, h2, h3⟩ := h
  rw [h1, h2, h3]
  exact ⟨.inl rfl, .inl rfl, .inl rfl, trivial⟩

theorem rrune_law (l : List UInt8) (hne : l ≠ []) (hl : l.length ≤ 9223372036854775807) : FCv Try.prog 65 [str l] (.tup [i64 (decodeL l).1, i64 (decodeL l).2, tb (okR l)]) := by
  refine FCv_of_awp (fn := Try.f65) (c := bodyC Try.f65) Try.func65 rfl (of_decide_eq_true rfl) [] ?_
  conv => whnf
  have hlen : 0 < l.length := List.length_pos_iff.2 hne
  have b0 := bt_lt l 0
  have b1 := bt_lt l 1
  have b2 := bt_lt l 2
  have b3 := bt_lt l 3
  refine ⟨by omega, _, bt_get hlen, ?_⟩
  conv => whnf
  rw [show IntKind.i64.wrap ↑(({ data := l.toArray } : ByteArray).data.toList.getD (Int.toNat 0) 0).toNat = (bt l 0 : Int) from wrap_i64 _ (by omega) (by show (bt l 0 : Int) ≤ _; omega)]
  refine br_intro (fun h => ?_) (fun h => ?_) <;> (rw [h]; conv => whnf)
  · have h := of_decide_eq_true h
    have e := rune_one (l := l) (by omega)
    refine fin_out ⟨by rw [e], by rw [e]; rfl, ?_⟩
    unfold okR; rw [e]; simp; omega
  have c1 := of_decide_eq_false h
  repeat' (refine br_intro (fun h => ?_) (fun h => ?_) <;> (rw [h]; conv => whnf) <;> (try rw [str_size] at h) <;> first | replace h := of_decide_eq_true h | replace h := of_decide_eq_false h | skip)
  all_goals first | (exfalso; omega) | exact fin_out (out_bad (dec_bad (by omega) (by omega) (by omega) (by omega))) | skip
  · have hn := True.intro
    rw [wrap_i64 ((bt l 0 : Int) - 192) (by omega) (by omega)]
    refine loop_intro (fun y : { y : Nat // 1 ≤ y ∧ y ≤ 2 ∧ ∀ j, 1 ≤ j → j ≤ y - 1 → 128 ≤ bt l j ∧ bt l j ≤ 191 } => ⟨[(0, str l), (5, i64 (acc l ((bt l 0 : Int) - 192) (y.1 - 1))), (6, i64 2), (7, i64 128), (8, i64 y.1)], [], 85, 0, []⟩) (fun y => 2 - y.1) ⟨1, by omega, by omega, fun j h1 h2 => absurd h1 (by omega)⟩ ?_ ?_
    · exact Wk.intro [] rfl (fun p hp => by cases hp) ⟨.same rfl trivial, .same rfl trivial, .same rfl trivial, .same rfl trivial, .same rfl trivial, trivial⟩ trivial
    rintro ⟨k, hk1, hk2, hk3⟩
    dsimp only
    conv => whnf
    have hA := acc_le l ((bt l 0 : Int) - 192) (by omega) (by omega) (k - 1) hk3
    refine br_intro (fun h => ?_) (fun h => ?_) <;> (rw [h]; conv => whnf)
    · have hkn := of_decide_eq_true h
      have hkl : k < l.length := by omega
      refine ⟨by omega, _, bt_get hkl, ?_⟩
      conv => whnf
      have bk := bt_lt l k
      rw [show IntKind.i64.wrap ↑(({ data := l.toArray } : ByteArray).data.toList.getD (Int.toNat (k : Int)) 0).toNat = (bt l k : Int) from wrap_i64 _ (by omega) (by show (bt l k : Int) ≤ _; omega)]
      have hkc : k = 1 := by omega
      refine br_intro (fun h => ?_) (fun h => ?_) <;> (rw [h]; conv => whnf)
      · have h := of_decide_eq_true h
        rcases hkc with rfl <;> exact fin_out (out_bad (dec_bad (by omega) (by omega) (by omega) (by omega)))
      have hd1 := of_decide_eq_false h
      refine br_intro (fun h => ?_) (fun h => ?_) <;> (rw [h]; conv => whnf)
      · have h := of_decide_eq_true h
        rcases hkc with rfl <;> exact fin_out (out_bad (dec_bad (by omega) (by omega) (by omega) (by omega)))
      have hd2 := of_decide_eq_false h
      have hpow : (64 : Int) ^ (k - 1) ≤ 4096 := by rcases hkc with rfl <;> decide
      generalize hZ : (64 : Int) ^ (k - 1) = Z at hA hpow
      rw [wrap_i64 (acc l ((bt l 0 : Int) - 192) (k - 1) * 64) (by omega) (by omega), wrap_i64 (acc l ((bt l 0 : Int) - 192) (k - 1) * 64 + (bt l k : Int)) (by omega) (by omega), wrap_i64 (acc l ((bt l 0 : Int) - 192) (k - 1) * 64 + (bt l k : Int) - 128) (by omega) (by omega), wrap_i64 ((k : Int) + 1) (by omega) (by omega)]
      refine Nx.intro ⟨k + 1, by omega, by omega, fun j h1 h2 => ?_⟩ (by dsimp only; omega) ?_
      · by_cases hj : j = k
        · subst hj; omega
        · exact hk3 j h1 (by omega)
      · refine Wk.intro [] rfl (fun p hp => by cases hp) ⟨.same rfl trivial, .same (congrArg i64 ?_) trivial, .same rfl trivial, .same rfl trivial, .same rfl trivial, trivial⟩ trivial
        obtain ⟨j, rfl⟩ : ∃ j, k = j + 1 := ⟨k - 1, by omega⟩
        rfl
    · have hkn : k = 2 := by have := of_decide_eq_false h; omega
      subst hkn
      have d1 := hk3 1 (by omega) (by omega)
      obtain ⟨v, hv⟩ : ∃ v : Nat, v = (bt l 0 % 32 * 64 + bt l 1 % 64) := ⟨_, rfl⟩
      have hC : acc l ((bt l 0 : Int) - 192) (2 - 1) = (v : Int) := by simp only [acc, Nat.add_one_sub_one, Nat.reduceSub, Nat.reduceAdd]; omega
      rw [hC]
      have hG : (v < 128 ∨ v > 1114111 ∨ (v ≥ 55296 ∧ v ≤ 57343)) → decodeL l = (65533, 1) := fun h => dec_bad (by omega) (by omega) (by omega) (by omega)
      have hG2 : ¬ (v < 128 ∨ v > 1114111 ∨ (v ≥ 55296 ∧ v ≤ 57343)) → decodeL l = (v, 2) := fun h => by rw [dec_bt, hv]; exact dec2 (n := l.length) (b2 := bt l 2) (b3 := bt l 3) (by omega) (by omega) (by omega) (by omega)
      repeat' (refine br_intro (fun h => ?_) (fun h => ?_) <;> (rw [h]; conv => whnf))
      all_goals simp only [decide_eq_true_eq, decide_eq_false_iff_not, ge_iff_le, gt_iff_lt] at *
      all_goals first | exact fin_out (out_bad (hG (by omega))) | exact fin_out (out_good (hG2 (by omega)) (by omega) rfl rfl)
  · have hn := True.intro
    rw [wrap_i64 ((bt l 0 : Int) - 224) (by omega) (by omega)]
    refine loop_intro (fun y : { y : Nat // 1 ≤ y ∧ y ≤ 3 ∧ ∀ j, 1 ≤ j → j ≤ y - 1 → 128 ≤ bt l j ∧ bt l j ≤ 191 } => ⟨[(0, str l), (5, i64 (acc l ((bt l 0 : Int) - 224) (y.1 - 1))), (6, i64 3), (7, i64 2048), (8, i64 y.1)], [], 85, 0, []⟩) (fun y => 3 - y.1) ⟨1, by omega, by omega, fun j h1 h2 => absurd h1 (by omega)⟩ ?_ ?_
    · exact Wk.intro [] rfl (fun p hp => by cases hp) ⟨.same rfl trivial, .same rfl trivial, .same rfl trivial, .same rfl trivial, .same rfl trivial, trivial⟩ trivial
    rintro ⟨k, hk1, hk2, hk3⟩
    dsimp only
    conv => whnf
    have hA := acc_le l ((bt l 0 : Int) - 224) (by omega) (by omega) (k - 1) hk3
    refine br_intro (fun h => ?_) (fun h => ?_) <;> (rw [h]; conv => whnf)
    · have hkn := of_decide_eq_true h
      have hkl : k < l.length := by omega
      refine ⟨by omega, _, bt_get hkl, ?_⟩
      conv => whnf
      have bk := bt_lt l k
      rw [show IntKind.i64.wrap ↑(({ data := l.toArray } : ByteArray).data.toList.getD (Int.toNat (k : Int)) 0).toNat = (bt l k : Int) from wrap_i64 _ (by omega) (by show (bt l k : Int) ≤ _; omega)]
      have hkc : k = 1 ∨ k = 2 := by omega
      refine br_intro (fun h => ?_) (fun h => ?_) <;> (rw [h]; conv => whnf)
      · have h := of_decide_eq_true h
        rcases hkc with rfl | rfl <;> exact fin_out (out_bad (dec_bad (by omega) (by omega) (by omega) (by omega)))
      have hd1 := of_decide_eq_false h
      refine br_intro (fun h => ?_) (fun h => ?_) <;> (rw [h]; conv => whnf)
      · have h := of_decide_eq_true h
        rcases hkc with rfl | rfl <;> exact fin_out (out_bad (dec_bad (by omega) (by omega) (by omega) (by omega)))
      have hd2 := of_decide_eq_false h
      have hpow : (64 : Int) ^ (k - 1) ≤ 4096 := by rcases hkc with rfl | rfl <;> decide
      generalize hZ : (64 : Int) ^ (k - 1) = Z at hA hpow
      rw [wrap_i64 (acc l ((bt l 0 : Int) - 224) (k - 1) * 64) (by omega) (by omega), wrap_i64 (acc l ((bt l 0 : Int) - 224) (k - 1) * 64 + (bt l k : Int)) (by omega) (by omega), wrap_i64 (acc l ((bt l 0 : Int) - 224) (k - 1) * 64 + (bt l k : Int) - 128) (by omega) (by omega), wrap_i64 ((k : Int) + 1) (by omega) (by omega)]
      refine Nx.intro ⟨k + 1, by omega, by omega, fun j h1 h2 => ?_⟩ (by dsimp only; omega) ?_
      · by_cases hj : j = k
        · subst hj; omega
        · exact hk3 j h1 (by omega)
      · refine Wk.intro [] rfl (fun p hp => by cases hp) ⟨.same rfl trivial, .same (congrArg i64 ?_) trivial, .same rfl trivial, .same rfl trivial, .same rfl trivial, trivial⟩ trivial
        obtain ⟨j, rfl⟩ : ∃ j, k = j + 1 := ⟨k - 1, by omega⟩
        rfl
    · have hkn : k = 3 := by have := of_decide_eq_false h; omega
      subst hkn
      have d1 := hk3 1 (by omega) (by omega)
      have d2 := hk3 2 (by omega) (by omega)
      obtain ⟨v, hv⟩ : ∃ v : Nat, v = (bt l 0 % 16 * 4096 + bt l 1 % 64 * 64 + bt l 2 % 64) := ⟨_, rfl⟩
      have hC : acc l ((bt l 0 : Int) - 224) (3 - 1) = (v : Int) := by simp only [acc, Nat.add_one_sub_one, Nat.reduceSub, Nat.reduceAdd]; omega
      rw [hC]
      have hG : (v < 2048 ∨ v > 1114111 ∨ (v ≥ 55296 ∧ v ≤ 57343)) → decodeL l = (65533, 1) := fun h => dec_bad (by omega) (by omega) (by omega) (by omega)
      have hG2 : ¬ (v < 2048 ∨ v > 1114111 ∨ (v ≥ 55296 ∧ v ≤ 57343)) → decodeL l = (v, 3) := fun h => by rw [dec_bt, hv]; exact dec3 (n := l.length) (b3 := bt l 3) (by omega) (by omega) (by omega) (by omega) (by omega) (by omega)
      repeat' (refine br_intro (fun h => ?_) (fun h => ?_) <;> (rw [h]; conv => whnf))
      all_goals simp only [decide_eq_true_eq, decide_eq_false_iff_not, ge_iff_le, gt_iff_lt] at *
      all_goals first | exact fin_out (out_bad (hG (by omega))) | exact fin_out (out_good (hG2 (by omega)) (by omega) rfl rfl)
  · have hn := True.intro
    rw [wrap_i64 ((bt l 0 : Int) - 240) (by omega) (by omega)]
    obtain ⟨low, hlow⟩ : ∃ low : Int, low = 65536 := ⟨_, rfl⟩
    refine loop_intro (fun y : { y : Nat // 1 ≤ y ∧ y ≤ 4 ∧ ∀ j, 1 ≤ j → j ≤ y - 1 → 128 ≤ bt l j ∧ bt l j ≤ 191 } => ⟨[(0, str l), (5, i64 (acc l ((bt l 0 : Int) - 240) (y.1 - 1))), (6, i64 4), (7, i64 low), (8, i64 y.1)], [], 85, 0, []⟩) (fun y => 4 - y.1) ⟨1, by omega, by omega, fun j h1 h2 => absurd h1 (by omega)⟩ ?_ ?_
    · exact Wk.intro [] rfl (fun p hp => by cases hp) ⟨.same rfl trivial, .same rfl trivial, .same rfl trivial, .same (by rw [hlow]; rfl) trivial, .same rfl trivial, trivial⟩ trivial
    rintro ⟨k, hk1, hk2, hk3⟩
    dsimp only
    conv => whnf
    have hA := acc_le l ((bt l 0 : Int) - 240) (by omega) (by omega) (k - 1) hk3
    refine br_intro (fun h => ?_) (fun h => ?_) <;> (rw [h]; conv => whnf)
    · have hkn := of_decide_eq_true h
      have hkl : k < l.length := by omega
      refine ⟨by omega, _, bt_get hkl, ?_⟩
      conv => whnf
      have bk := bt_lt l k
      rw [show IntKind.i64.wrap ↑(({ data := l.toArray } : ByteArray).data.toList.getD (Int.toNat (k : Int)) 0).toNat = (bt l k : Int) from wrap_i64 _ (by omega) (by show (bt l k : Int) ≤ _; omega)]
      have hkc : k = 1 ∨ k = 2 ∨ k = 3 := by omega
      refine br_intro (fun h => ?_) (fun h => ?_) <;> (rw [h]; conv => whnf)
      · have h := of_decide_eq_true h
        rcases hkc with rfl | rfl | rfl <;> exact fin_out (out_bad (dec_bad (by omega) (by omega) (by omega) (by omega)))
      have hd1 := of_decide_eq_false h
      refine br_intro (fun h => ?_) (fun h => ?_) <;> (rw [h]; conv => whnf)
      · have h := of_decide_eq_true h
        rcases hkc with rfl | rfl | rfl <;> exact fin_out (out_bad (dec_bad (by omega) (by omega) (by omega) (by omega)))
      have hd2 := of_decide_eq_false h
      have hpow : (64 : Int) ^ (k - 1) ≤ 4096 := by rcases hkc with rfl | rfl | rfl <;> decide
      generalize hZ : (64 : Int) ^ (k - 1) = Z at hA hpow
      rw [wrap_i64 (acc l ((bt l 0 : Int) - 240) (k - 1) * 64) (by omega) (by omega), wrap_i64 (acc l ((bt l 0 : Int) - 240) (k - 1) * 64 + (bt l k : Int)) (by omega) (by omega), wrap_i64 (acc l ((bt l 0 : Int) - 240) (k - 1) * 64 + (bt l k : Int) - 128) (by omega) (by omega), wrap_i64 ((k : Int) + 1) (by omega) (by omega)]
      refine Nx.intro ⟨k + 1, by omega, by omega, fun j h1 h2 => ?_⟩ (by dsimp only; omega) ?_
      · by_cases hj : j = k
        · subst hj; omega
        · exact hk3 j h1 (by omega)
      · refine Wk.intro [] rfl (fun p hp => by cases hp) ⟨.same rfl trivial, .same (congrArg i64 ?_) trivial, .same rfl trivial, .same rfl trivial, .same rfl trivial, trivial⟩ trivial
        obtain ⟨j, rfl⟩ : ∃ j, k = j + 1 := ⟨k - 1, by omega⟩
        rfl
    · have hkn : k = 4 := by have := of_decide_eq_false h; omega
      subst hkn
      have d1 := hk3 1 (by omega) (by omega)
      have d2 := hk3 2 (by omega) (by omega)
      have d3 := hk3 3 (by omega) (by omega)
      obtain ⟨v, hv⟩ : ∃ v : Nat, v = (bt l 0 % 8 * 262144 + bt l 1 % 64 * 4096 + bt l 2 % 64 * 64 + bt l 3 % 64) := ⟨_, rfl⟩
      have hC : acc l ((bt l 0 : Int) - 240) (4 - 1) = (v : Int) := by simp only [acc, Nat.add_one_sub_one, Nat.reduceSub, Nat.reduceAdd]; omega
      rw [hC]
      have hG : (v < 65536 ∨ v > 1114111 ∨ (v ≥ 55296 ∧ v ≤ 57343)) → decodeL l = (65533, 1) := fun h => dec_bad (by omega) (by omega) (by omega) (by omega)
      have hG2 : ¬ (v < 65536 ∨ v > 1114111 ∨ (v ≥ 55296 ∧ v ≤ 57343)) → decodeL l = (v, 4) := fun h => by rw [dec_bt, hv]; exact dec4 (n := l.length) (by omega) (by omega) (by omega) (by omega) (by omega) (by omega) (by omega)
      repeat' (refine br_intro (fun h => ?_) (fun h => ?_) <;> (rw [h]; conv => whnf))
      all_goals simp only [decide_eq_true_eq, decide_eq_false_iff_not, ge_iff_le, gt_iff_lt] at *
      all_goals first | exact fin_out (out_bad (hG (by omega))) | exact fin_out (out_good (hG2 (by omega)) (by omega) rfl rfl)

theorem right_step {l : List UInt8} (hne : l ≠ []) : right (segs l) = (okR l && right (segs (l.drop (decodeL l).2))) := by
  rw [segs_cons hne, right_cons, bad_seg hne]; rfl
theorem len_step {l : List UInt8} (hne : l ≠ []) : (segs l).length = (segs (l.drop (decodeL l).2)).length + 1 := by
  rw [segs_cons hne, List.length_cons]
theorem len_pos {l : List UInt8} (h : (l.length : Int) > 0) : l ≠ [] := by rintro rfl; simp at h

theorem rrunes_law (l : List UInt8) (hl : l.length ≤ 9223372036854775806) : FCv Try.prog 64 [str l] (.tup [i64 (segs l).length, tb (right (segs l))]) := by
  refine FCv_of_awp (fn := Try.f64) (c := bodyC Try.f64) Try.func64 rfl (of_decide_eq_true rfl) [] ?_
  conv => whnf
  refine loop_intro (fun y : { y : List UInt8 × Nat × Bool // y.1.length ≤ l.length ∧ y.2.1 + (segs y.1).length = (segs l).length ∧ (y.2.2 && right (segs y.1)) = right (segs l) } => ⟨[(0, str y.1.1), (4, i64 y.1.2.1), (5, tb y.1.2.2)], [], 29, 0, []⟩) (fun y => y.1.1.length) ⟨(l, 0, true), by simp⟩ ?_ ?_
  · exact Wk.intro [] rfl (fun p hp => by cases hp) ⟨.same rfl trivial, .same rfl trivial, .same rfl trivial, trivial⟩ trivial
  rintro ⟨⟨c, n, r⟩, h0, h1, h2⟩
  dsimp only at h0 h1 h2 ⊢
  conv => whnf
  have hs := segs_len_le l
  (refine br_intro (fun h => ?_) (fun h => ?_) <;> (rw [h]; conv => whnf) <;> (try rw [str_size] at h) <;> first | replace h := of_decide_eq_true h | replace h := of_decide_eq_false h | skip)
  · have hne := len_pos h
    rw [len_step hne] at h1
    rw [right_step hne] at h2
    have hw := decodeL_le c hne
    have hw1 := decodeL_width c
    refine ⟨_, rrune_law c hne (by omega), ?_⟩
    conv => whnf
    refine ⟨by omega, ?_⟩
    conv => whnf
    rw [str_tail, str_size]
    refine ⟨⟨by omega, by omega⟩, ?_⟩
    conv => whnf
    rw [wrap_i64 ((n : Int) + 1) (by omega) (by omega)]
    cases r <;> conv => whnf
    · refine Nx.intro ⟨(c.drop (decodeL c).2, n + 1, false), by dsimp only; rw [List.length_drop]; omega, by dsimp only; omega, by rw [← h2]; rfl⟩ (by dsimp only; rw [List.length_drop]; omega) ?_
      exact Wk.intro [] rfl (fun p hp => by cases hp) ⟨.same rfl trivial, .same rfl trivial, .same rfl trivial, trivial⟩ trivial
    · refine Nx.intro ⟨(c.drop (decodeL c).2, n + 1, okR c), by dsimp only; rw [List.length_drop]; omega, by dsimp only; omega, by rw [← h2]; rfl⟩ (by dsimp only; rw [List.length_drop]; omega) ?_
      exact Wk.intro [] rfl (fun p hp => by cases hp) ⟨.same rfl trivial, .same rfl trivial, .same rfl trivial, trivial⟩ trivial
  · obtain rfl : c = [] := List.length_eq_zero_iff.1 (by omega)
    refine ⟨.inl (congrArg i64 ?_), .inl (congrArg tb ?_), trivial⟩
    · rw [← h1]; simp [segs_nil]
    · rw [← h2]; simp [segs_nil, right]

/-- What stands first. -/
theorem first_dash {l : List UInt8} (hne : l ≠ []) (hr : right (segs l) = true) : ((segs l).head?.map (·.1) == some 45) = ((bt l 0 : Int) == 45) := by
  rw [segs_cons hne, List.head?_cons, Option.map_some]
  have e : ((some (decodeL l).1 : Option Nat) == some 45) = ((decodeL l).1 == 45) := rfl
  rw [e, Bool.eq_iff_iff, beq_iff_eq, beq_iff_eq]
  constructor
  · intro h
    by_cases h0 : bt l 0 < 128
    · rw [rune_one h0] at h; dsimp only at h; omega
    · exfalso
      rw [dec_bt] at h
      rcases decodeN_shape l.length (bt l 0) (bt l 1) (bt l 2) (bt l 3) with ⟨a, e⟩ | ⟨a1, a2, a3, a4, e⟩ | ⟨a1, a2, a3, a4, a5, a6, e⟩ | ⟨a1, a2, a3, a4, a5, a6, a7, e⟩ | e
      all_goals (rw [e] at h; dsimp only at h; omega)
  · intro h
    rw [rune_one (by omega)]; dsimp only; omega
def mayB (l : List UInt8) : Bool := (segs l).all fun s => !barred s.1
theorem mayB_step {l : List UInt8} (hne : l ≠ []) : mayB l = (!barred (decodeL l).1 && mayB (l.drop (decodeL l).2)) := by
  unfold mayB; rw [segs_cons hne, all_cons]
theorem may_no {l : List UInt8} (h : (segs l).length < 1 ∨ 24 < (segs l).length ∨ right (segs l) = false) : may l = false := by
  cases hm : may l with
  | false => rfl
  | true =>
    exfalso
    have hr := may_right hm
    unfold may mayG at hm
    simp only [Bool.and_eq_true, decide_eq_true_eq] at hm
    rcases h with h | h | h
    · omega
    · omega
    · rw [hr] at h; cases h

theorem rmay_law (l : List UInt8) (hl : l.length ≤ 9223372036854775806) : FCv Try.prog 54 [str l] (tb (may l)) := by
  refine FCv_of_awp (fn := Try.f54) (c := bodyC Try.f54) Try.func54 rfl (of_decide_eq_true rfl) [] ?_
  conv => whnf
  refine ⟨_, rrunes_law l hl, ?_⟩
  conv => whnf
  refine br_intro (fun h => ?_) (fun h => ?_) <;> (rw [h]; conv => whnf)
  · exact .inl (congrArg tb (may_no (.inl (by have := of_decide_eq_true h; omega))).symm)
  refine br_intro (fun h2 => ?_) (fun h2 => ?_) <;> (rw [h2]; conv => whnf)
  · exact .inl (congrArg tb (may_no (.inr (.inl (by have := of_decide_eq_true h2; omega)))).symm)
  have h := of_decide_eq_false h
  have h2 := of_decide_eq_false h2
  have hne : l ≠ [] := by rintro rfl; exact h (by simp [segs_nil])
  have hlen : 0 < l.length := List.length_pos_iff.2 hne
  cases hr : right (segs l) with
  | false =>
    conv => whnf
    exact .inl (congrArg tb (may_no (.inr (.inr hr))).symm)
  | true =>
    conv => whnf
    refine ⟨by omega, _, bt_get hlen, ?_⟩
    conv => whnf
    have hf := first_dash hne hr
    have hm : may l = (mayB l && !((bt l 0 : Int) == 45)) := by
      unfold may mayG mayB
      rw [hf, decide_eq_true (by omega : 1 ≤ (segs l).length), decide_eq_true (by omega : (segs l).length ≤ 24), Bool.true_and, Bool.true_and]
    refine br_intro (fun h => ?_) (fun h => ?_) <;> (rw [h]; conv => whnf)
    · refine .inl (congrArg tb ?_)
      rw [hm, show ((bt l 0 : Int) == 45) = true from h, Bool.not_true, Bool.and_false]
    rw [show ((bt l 0 : Int) == 45) = false from h, Bool.not_false, Bool.and_true] at hm
    refine loop_intro (fun y : { y : List UInt8 // y.length ≤ l.length ∧ may l = mayB y } => ⟨[(0, str y.1)], [], 62, 0, []⟩) (fun y => y.1.length) ⟨l, Nat.le_refl _, hm⟩ ?_ ?_
    · exact Wk.intro [] rfl (fun p hp => by cases hp) ⟨.same rfl trivial, trivial⟩ trivial
    rintro ⟨c, h0, h1⟩
    dsimp only at h0 h1 ⊢
    conv => whnf
    (refine br_intro (fun h => ?_) (fun h => ?_) <;> (rw [h]; conv => whnf) <;> (try rw [str_size] at h) <;> first | replace h := of_decide_eq_true h | replace h := of_decide_eq_false h | skip)
    · have hne := len_pos h
      rw [mayB_step hne] at h1
      have hw := decodeL_le c hne
      have hw1 := decodeL_width c
      refine ⟨_, rrune_law c hne (by omega), ?_⟩
      conv => whnf
      have hb : ∀ b, barred (decodeL c).1 = b ↔ (decide (((decodeL c).1 : Int) < 33) || (decide (((decodeL c).1 : Int) ≥ 127) && decide (((decodeL c).1 : Int) ≤ 160)) || ((decodeL c).1 : Int) == 8232 || ((decodeL c).1 : Int) == 8233 || ((decodeL c).1 : Int) == 65533) = b := by
        intro b
        rw [show (decide (((decodeL c).1 : Int) < 33) || (decide (((decodeL c).1 : Int) ≥ 127) && decide (((decodeL c).1 : Int) ≤ 160)) || ((decodeL c).1 : Int) == 8232 || ((decodeL c).1 : Int) == 8233 || ((decodeL c).1 : Int) == 65533) = barred (decodeL c).1 from ?_]
        rw [Bool.eq_iff_iff, barred_iff]
        simp only [Bool.or_eq_true, Bool.and_eq_true, decide_eq_true_eq, beq_iff_eq]
        omega
      repeat' (refine br_intro (fun h => ?_) (fun h => ?_) <;> (rw [h]; conv => whnf))
      all_goals first
        | (refine .inl (congrArg tb ?_)
           rw [h1, (hb true).2 (by simp [*])]; rfl)
        | (refine ⟨by omega, ?_⟩
           conv => whnf
           rw [str_tail, str_size]
           refine ⟨⟨by omega, by omega⟩, ?_⟩
           conv => whnf
           refine Nx.intro ⟨c.drop (decodeL c).2, by rw [List.length_drop]; omega, by rw [h1, (hb false).2 (by simp [*])]; rfl⟩ (by show (c.drop (decodeL c).2).length < c.length; rw [List.length_drop]; omega) ?_
           exact Wk.intro [] rfl (fun p hp => by cases hp) ⟨.same rfl trivial, trivial⟩ trivial)
    · obtain rfl : c = [] := List.length_eq_zero_iff.1 (by omega)
      exact .inl (congrArg tb h1.symm)

theorem fold_take {l : List UInt8} {i : Nat} {c : UInt8} (h : l[i]? = some c) (d : UInt8) (hd : d = foldB c) : ((l.take i).map foldB ++ l.drop i).set i d = (l.take (i + 1)).map foldB ++ l.drop (i + 1) := by
  have hi : i < l.length := (List.getElem?_eq_some_iff.1 h).1
  have e : l.drop i = c :: l.drop (i + 1) := by rw [List.drop_eq_getElem_cons hi]; rw [List.getElem?_eq_getElem hi] at h; cases h; rfl
  rw [List.set_append_right _ _ (by simp; omega), e, List.take_add_one, h]
  simp [hd, Nat.min_eq_left (Nat.le_of_lt hi)]
theorem fold_get {l : List UInt8} {i : Nat} {c : UInt8} (h : l[i]? = some c) : ((l.take i).map foldB ++ l.drop i)[i]? = some c := by
  have hi : i < l.length := (List.getElem?_eq_some_iff.1 h).1
  rw [List.getElem?_append_right (by simp; omega)]
  simp [Nat.min_eq_left (Nat.le_of_lt hi), List.getElem?_drop, h]
theorem fold_same {l : List UInt8} {i : Nat} {c : UInt8} (h : l[i]? = some c) (hd : c = foldB c) : (l.take i).map foldB ++ l.drop i = (l.take (i + 1)).map foldB ++ l.drop (i + 1) := by
  rw [← fold_take h c hd]
  have hi : i < ((l.take i).map foldB ++ l.drop i).length := (List.getElem?_eq_some_iff.1 (fold_get h)).1
  have e : ((l.take i).map foldB ++ l.drop i)[i] = c := (List.getElem?_eq_some_iff.1 (fold_get h)).2
  conv => rhs; rw [← e]
  exact (List.set_getElem_self hi).symm
end Go.AW.Nam
