/- Names: the program's functions, walked. -/
import Derived.Test.YtciboampiaainaaDoorN1
import Derived.Test.YtciboampiaainaaDoorN0
import Derived.Test.YtciboampiaainaaDoorAw28
import Derived.Test.YtciboampiaainaaDoorProg
set_option linter.unusedVariables false
set_option linter.unusedSimpArgs false
namespace Go.AW.Nam
open Go Go.AW Go.Proofs Go.Lib Go.RowKit
set_option maxRecDepth 10000
set_option pp.maxSteps 60

def str (l : List UInt8) : T := .lit (.string ⟨l.toArray⟩)
def i32 (c : Nat) : T := .lit (.int .i32 (c : Int))
theorem str_size (l : List UInt8) : ByteArray.size ⟨l.toArray⟩ = l.length := by simp [ByteArray.size]
theorem str_ext (l : List UInt8) (a b : Nat) : ByteArray.extract ⟨l.toArray⟩ a b = ⟨((l.drop a).take (b - a)).toArray⟩ := by
  apply ByteArray.ext
  apply Array.ext'
  rw [extract_data]
theorem dec_at (l : List UInt8) (pos : Nat) : Utf8.decode ⟨l.toArray⟩ pos = decodeL (l.drop pos) := (decodeL_drop ⟨l.toArray⟩ pos).symm
theorem str_tail (l : List UInt8) (p : Nat) : ByteArray.extract ⟨l.toArray⟩ (Int.toNat (p : Int)) (ByteArray.size ⟨l.toArray⟩) = ⟨(l.drop p).toArray⟩ := by
  rw [str_ext, str_size, Int.toNat_natCast, List.take_of_length_le (by rw [List.length_drop]; exact Nat.le_refl _)]
theorem ne_drop {l : List UInt8} {p : Nat} (h : p < l.length) : l.drop p ≠ [] := by
  intro e
  have := congrArg List.length e
  rw [List.length_drop] at this
  simp at this; omega
theorem beq_int (k n : Nat) : ((n : Int) == (k : Int)) = (n == k) := by
  rw [Bool.eq_iff_iff, beq_iff_eq, beq_iff_eq]; omega
theorem wrap32 (n : Int) (h1 : -2147483648 ≤ n) (h2 : n ≤ 2147483647) : IntKind.i32.wrap n = n := by
  have e1 : (2 : Int) ^ IntKind.i32.bits = 4294967296 := by decide
  have e2 : (2 : Int) ^ (IntKind.i32.bits - 1) = 2147483648 := by decide
  simp only [IntKind.wrap, e1, e2, show IntKind.i32.signed = true from rfl, Bool.true_and, decide_eq_true_eq]
  split <;> rename_i h0 <;> omega
theorem barred_iff (c : Nat) : barred c = true ↔ c < 33 ∨ (127 ≤ c ∧ c ≤ 160) ∨ c = 8232 ∨ c = 8233 ∨ c = 65533 := by simp [barred, or_assoc]

theorem barred_law (c : Nat) : FCv Tryd.prog 23 [i32 c] (tb (barred c)) := by
  refine FCv_of_awp (fn := Tryd.f23) (c := bodyC Tryd.f23) Tryd.func23 rfl (of_decide_eq_true rfl) [] ?_
  conv => whnf
  repeat' (refine br_intro (fun h => ?_) (fun h => ?_) <;> (rw [h]; conv => whnf))
  all_goals (refine .inl (congrArg tb (Bool.eq_iff_iff.2 ?_)); rw [barred_iff]; simp only [decide_eq_true_eq, decide_eq_false_iff_not, beq_iff_eq, beq_eq_false_iff_ne, ne_eq, true_iff] at *; first | omega | (simp; omega))

/-- A call that is told of with `Below` is one of data. -/
theorem FCv_below {P : Program} {f : FuncId} {ts : List T} {o : T} {vs : List Value} {v : Value} (hargs : ∀ (X : Xs) (w : World) (args : List Value), ts.length = args.length → (∀ (i : Nat) (t : T) (v : Value), ts[i]? = some t → args[i]? = some v → VRel X (fun _ => none) w t v) → args = vs)
    (hv : ∀ X w, VRel X (fun _ => none) w o v)
    (h : ∀ X w, GOk X w → Calls P f vs.toArray w fun e w' => e = .returned v ∧ Below w.heap.size w w') : FCv P f ts o := by
  intro X w args hX hG hlen ha
  obtain rfl := hargs X w args hlen ha
  refine (h X w hG).mono ?_
  rintro e w' ⟨rfl, hb⟩
  exact ⟨v, X, rfl, fun b off hx => ⟨hx, World.cell?_of_block (hb.block b (hX b off hx))⟩, ⟨hb.size, hb.os, hb.output, hb.tape, fun b hb1 _ => hb.block b hb1⟩, fun b off hx => ⟨Nat.lt_of_lt_of_le (hX b off hx) hb.size, .inl hx⟩, hv X w'⟩
theorem decode_law (l : List UInt8) (hne : l ≠ []) : FCv Tryd.prog 24 [str l] (.tup [i32 (decodeL l).1, i64 (decodeL l).2]) := by
  refine FCv_below (vs := [.string ⟨l.toArray⟩]) (v := .tuple #[.int .i32 (decodeL l).1, .int .i64 (decodeL l).2]) ?_ ?_ ?_
  · intro X w args hlen ha
    match args, hlen with
    | [a], _ => rw [(ha 0 _ a rfl rfl).lit_inv]
  · intro X w
    refine .tup _ [_, _] rfl ?_
    intro i t v ht hv
    match i with
    | 0 => cases ht; cases hv; exact .lit _
    | 1 => cases ht; cases hv; exact .lit _
    | n + 2 => cases ht
  · intro X w hG
    have hT : Lib.Utf8Tabs 0 1 w := by
      refine ⟨fun c hc => ?_, fun i hi => ?_⟩
      · exact (hG 0 c _ (by simp only [gtab]; rw [if_pos hc])).2
      · constructor
        · exact (hG 1 (2 * i) _ (by simp only [gtab]; rw [if_pos (by omega), if_pos (by omega), show 2 * i / 2 = i by omega])).2
        · exact (hG 1 (2 * i + 1) _ (by simp only [gtab]; rw [if_pos (by omega), if_neg (by omega), show (2 * i + 1) / 2 = i by omega])).2
    have h := Tryd.utf8_DecodeRuneInString ⟨l.toArray⟩ w hT
    have e : Lib.decodeGo ⟨l.toArray⟩ = decodeL l := by
      unfold Lib.decodeGo
      rw [if_neg (by rw [str_size]; exact fun h => hne (List.length_eq_zero_iff.1 h))]
      rfl
    rw [e] at h
    exact h

theorem wrong_law (l : List UInt8) (pos : Nat) (hp : pos < l.length) : FCv Tryd.prog 21 [str l, i64 pos, i32 (decodeL (l.drop pos)).1] (tb ((decodeL (l.drop pos)).1 == 65533 && (decodeL (l.drop pos)).2 == 1)) := by
  refine FCv_of_awp (fn := Tryd.f21) (c := bodyC Tryd.f21) Tryd.func21 rfl (of_decide_eq_true rfl) [] ?_
  conv => whnf
  refine br_intro (fun h => ?_) (fun h => ?_) <;> (rw [h]; conv => whnf)
  · refine .inl (congrArg tb ?_)
    rw [bne_iff_ne] at h
    rw [beq_eq_false_iff_ne.2 (by omega)]
    rfl
  · rw [bne_eq_false_iff_eq] at h
    refine ⟨by omega, ?_⟩
    conv => whnf
    rw [str_tail, str_size]
    refine ⟨⟨by omega, by omega⟩, ?_⟩
    conv => whnf
    refine ⟨_, decode_law _ (ne_drop hp), ?_⟩
    conv => whnf
    refine .inl (congrArg tb ?_)
    rw [show ((decodeL (l.drop pos)).1 == 65533) = true from beq_iff_eq.2 (by omega), Bool.true_and]
    exact beq_int 1 _

theorem lt_str {l : List UInt8} {p : Nat} (h : p < l.length) : decide (p < ByteArray.size ⟨l.toArray⟩) = true := by rw [str_size]; exact decide_eq_true h
theorem ge_str {l : List UInt8} {p : Nat} (h : ¬ p < l.length) : decide (p < ByteArray.size ⟨l.toArray⟩) = false := by rw [str_size]; exact decide_eq_false h
theorem segs_at {l : List UInt8} {p : Nat} (h : p < l.length) : segs (l.drop p) = ((decodeL (l.drop p)).1, (l.drop p).take (decodeL (l.drop p)).2) :: segs (l.drop (p + (decodeL (l.drop p)).2)) := by
  rw [segs_cons (ne_drop h), List.drop_drop]
theorem segs_end {l : List UInt8} {p : Nat} (h : ¬ p < l.length) : segs (l.drop p) = [] := by
  rw [List.drop_of_length_le (by omega)]; rfl
theorem width_le {l : List UInt8} {p : Nat} (h : p < l.length) : 1 ≤ (decodeL (l.drop p)).2 ∧ p + (decodeL (l.drop p)).2 ≤ l.length := by
  have := decodeL_le _ (ne_drop h)
  rw [List.length_drop] at this
  exact ⟨decodeL_width _, by omega⟩
theorem segs_small {l : List UInt8} (hl : l.length ≤ 9223372036854775806) (p : Nat) : (segs (l.drop p)).length ≤ 9223372036854775806 := by
  have := segs_len_le (l.drop p)
  rw [List.length_drop] at this
  omega

theorem runes_law (l : List UInt8) (hl : l.length ≤ 9223372036854775806) : FCv Tryd.prog 11 [str l] (.tup [i64 (segs l).length, tb (right (segs l))]) := by
  refine FCv_of_awp (fn := Tryd.f11) (c := bodyC Tryd.f11) Tryd.func11 rfl (of_decide_eq_true rfl) [] ?_
  conv => whnf
  refine loop_intro (fun y : { y : Nat × Nat × Bool // y.2.1 + (segs (l.drop y.1)).length = (segs l).length ∧ (y.2.2 && right (segs (l.drop y.1))) = right (segs l) } => ⟨[(0, str l), (4, i64 y.1.2.1), (5, tb y.1.2.2), (9, .itr 0)], [(0, .iter ⟨l.toArray⟩ y.1.1)], 26, 1, []⟩) (fun y => l.length - y.1.1) ⟨(0, 0, true), by simp⟩ ?_ ?_
  · exact Wk.intro [] rfl (fun p hp => by cases hp) ⟨.same rfl trivial, .same rfl trivial, .same rfl trivial, .same rfl (by exact rfl), trivial⟩ ⟨⟨rfl, .inl ⟨rfl, trivial⟩⟩, trivial⟩
  rintro ⟨⟨p, n, r⟩, h1, h2⟩
  dsimp only at h1 h2 ⊢
  conv => whnf
  have hs := segs_len_le l
  by_cases hp : p < l.length
  · rw [lt_str hp, dec_at]
    rw [segs_at hp, List.length_cons] at h1
    rw [segs_at hp, right_cons, bad_seg (ne_drop hp)] at h2
    obtain ⟨hw1, hw2⟩ := width_le hp
    have hn : (IntKind.i64.wrap ((n : Int) + 1)) = ((n + 1 : Nat) : Int) := by rw [wrap_i64 _ (by omega) (by omega)]; omega
    cases r <;> conv => whnf
    · rw [hn]
      refine Nx.intro ⟨(p + (decodeL (l.drop p)).2, n + 1, false), by dsimp only; omega, by dsimp only; rw [← h2]; rfl⟩ (by dsimp only; omega) ?_
      exact Wk.intro [] rfl (fun p hp => by cases hp) ⟨.same rfl trivial, .same rfl trivial, .same rfl trivial, .same rfl (by exact rfl), trivial⟩ ⟨⟨rfl, .inl ⟨rfl, trivial⟩⟩, trivial⟩
    · refine ⟨_, wrong_law l p hp, ?_⟩
      conv => whnf
      rw [hn]
      refine Nx.intro ⟨(p + (decodeL (l.drop p)).2, n + 1, !((decodeL (l.drop p)).1 == 65533 && (decodeL (l.drop p)).2 == 1)), by dsimp only; omega, by dsimp only; rw [← h2]; rfl⟩ (by dsimp only; omega) ?_
      exact Wk.intro [] rfl (fun p hp => by cases hp) ⟨.same rfl trivial, .same rfl trivial, .same rfl trivial, .same rfl (by exact rfl), trivial⟩ ⟨⟨rfl, .inl ⟨rfl, trivial⟩⟩, trivial⟩
  · rw [ge_str hp]
    rw [segs_end hp] at h1 h2
    conv => whnf
    refine ⟨.inl (congrArg i64 ?_), .inl (congrArg tb ?_), trivial⟩
    · rw [← h1]; simp
    · rw [← h2]; simp [right]

theorem all_cons {s : Nat × List UInt8} {g : List (Nat × List UInt8)} : ((s :: g).all fun s => !barred s.1) = (!barred s.1 && g.all fun s => !barred s.1) := List.all_cons
theorem may_law (l : List UInt8) (hl : l.length ≤ 9223372036854775806) : FCv Tryd.prog 15 [str l] (tb (may l)) := by
  refine FCv_of_awp (fn := Tryd.f15) (c := bodyC Tryd.f15) Tryd.func15 rfl (of_decide_eq_true rfl) [] ?_
  conv => whnf
  refine loop_intro (fun y : { y : Nat × Nat // y.2 ≤ 24 ∧ may l = (decide (1 ≤ y.2 + (segs (l.drop y.1)).length) && decide (y.2 + (segs (l.drop y.1)).length ≤ 24) && ((segs (l.drop y.1)).all fun s => !barred s.1) && !(y.1 == 0 && ((segs (l.drop y.1)).head?.map (·.1) == some 45))) } => ⟨[(0, str l), (3, i64 y.1.2), (7, .itr 0)], [(0, .iter ⟨l.toArray⟩ y.1.1)], 30, 1, []⟩) (fun y => l.length - y.1.1) ⟨(0, 0), by simp [may, mayG]⟩ ?_ ?_
  · exact Wk.intro [] rfl (fun p hp => by cases hp) ⟨.same rfl trivial, .same rfl trivial, .same rfl (by exact rfl), trivial⟩ ⟨⟨rfl, .inl ⟨rfl, trivial⟩⟩, trivial⟩
  rintro ⟨⟨p, n⟩, h1, h2⟩
  dsimp only at h1 h2 ⊢
  conv => whnf
  by_cases hp : p < l.length
  · rw [lt_str hp, dec_at]
    rw [segs_at hp, List.length_cons, all_cons, List.head?_cons, Option.map_some] at h2
    obtain ⟨hw1, hw2⟩ := width_le hp
    have hn : (IntKind.i64.wrap ((n : Int) + 1)) = ((n + 1 : Nat) : Int) := by rw [wrap_i64 _ (by omega) (by omega)]; omega
    conv => whnf
    rw [hn]
    refine br_intro (fun h => ?_) (fun h => ?_) <;> (rw [h]; conv => whnf)
    · have h := of_decide_eq_true h
      refine .inl (congrArg tb ?_)
      rw [h2, decide_eq_false (by omega : ¬ n + ((segs (l.drop (p + (decodeL (l.drop p)).2))).length + 1) ≤ 24), Bool.and_false, Bool.false_and, Bool.false_and]
    have h := of_decide_eq_false h
    refine ⟨_, barred_law _, ?_⟩
    conv => whnf
    cases hb : barred (decodeL (l.drop p)).1 with
    | true =>
      conv => whnf
      refine .inl (congrArg tb ?_)
      rw [h2, hb, Bool.not_true, Bool.false_and, Bool.and_false, Bool.false_and]
    | false =>
      rw [hb, Bool.not_false, Bool.true_and] at h2
      conv => whnf
      have hnext : ∀ (hc : (p == 0 && (decodeL (l.drop p)).1 == 45) = false), may l = (decide (1 ≤ (n + 1) + (segs (l.drop (p + (decodeL (l.drop p)).2))).length) && decide ((n + 1) + (segs (l.drop (p + (decodeL (l.drop p)).2))).length ≤ 24) && ((segs (l.drop (p + (decodeL (l.drop p)).2))).all fun s => !barred s.1) && !((p + (decodeL (l.drop p)).2) == 0 && ((segs (l.drop (p + (decodeL (l.drop p)).2))).head?.map (·.1) == some 45))) := by
        intro hc
        have e : (some (decodeL (l.drop p)).1 == some 45) = ((decodeL (l.drop p)).1 == 45) := rfl
        rw [h2, e, hc, show ((p + (decodeL (l.drop p)).2) == 0) = false from beq_eq_false_iff_ne.2 (by omega), Bool.false_and, Nat.add_right_comm n 1, Nat.add_assoc n]
      refine br_intro (fun h3 => ?_) (fun h3 => ?_) <;> (rw [h3]; conv => whnf)
      · have h3' : p = 0 := by have := beq_iff_eq.1 h3; omega
        refine br_intro (fun h4 => ?_) (fun h4 => ?_) <;> (rw [h4]; conv => whnf)
        · refine .inl (congrArg tb ?_)
          have h4 : (decodeL (l.drop p)).1 = 45 := by have := beq_iff_eq.1 h4; omega
          rw [h2, h4, h3']; simp
        · refine Nx.intro ⟨(p + (decodeL (l.drop p)).2, n + 1), by dsimp only; omega, hnext ?_⟩ (by dsimp only; omega) ?_
          · rw [show ((decodeL (l.drop p)).1 == 45) = false from beq_eq_false_iff_ne.2 (by have := beq_eq_false_iff_ne.1 h4; omega), Bool.and_false]
          exact Wk.intro [] rfl (fun p hp => by cases hp) ⟨.same rfl trivial, .same rfl trivial, .same rfl (by exact rfl), trivial⟩ ⟨⟨rfl, .inl ⟨rfl, trivial⟩⟩, trivial⟩
      · refine Nx.intro ⟨(p + (decodeL (l.drop p)).2, n + 1), by dsimp only; omega, hnext ?_⟩ (by dsimp only; omega) ?_
        · rw [show (p == 0) = false from beq_eq_false_iff_ne.2 (by have := beq_eq_false_iff_ne.1 h3; omega), Bool.false_and]
        exact Wk.intro [] rfl (fun p hp => by cases hp) ⟨.same rfl trivial, .same rfl trivial, .same rfl (by exact rfl), trivial⟩ ⟨⟨rfl, .inl ⟨rfl, trivial⟩⟩, trivial⟩
  · rw [ge_str hp]
    rw [segs_end hp] at h2
    conv => whnf
    refine .inl (congrArg tb ?_)
    rw [h2]
    simp only [List.length_nil, Nat.add_zero, List.all_nil, List.head?_nil, Option.map_none, Bool.and_true, gt_iff_lt]
    rw [decide_eq_true h1, show ((none : Option Nat) == some 45) = false from rfl, Bool.and_false, Bool.not_false, Bool.and_true, Bool.and_true]
    exact decide_eq_decide.2 (by omega)

theorem enc_eq (c : Nat) (h : c ≤ 1114111) : Utf8.encode (c : Int) = ⟨(encodeRune (c : Int)).toArray⟩ := by
  have hb : ∀ (z : Int) (n : Nat), z = (n : Int) → z.toNat.toUInt8 = UInt8.ofNat n := by rintro z n rfl; simp
  by_cases hs : 55296 ≤ c ∧ c ≤ 57343
  · have hv : Utf8.valid (c : Int) = false := by unfold Utf8.valid; simp; omega
    unfold encodeRune
    rw [encodeRuneZ_bad (.inr (.inl (by omega)))]
    unfold Utf8.encode
    rw [hv]
    simp only [Bool.false_eq_true, if_false, Utf8.runeError]
    decide
  have hv : Utf8.valid (c : Int) = true := by unfold Utf8.valid; simp; omega
  unfold encodeRune Utf8.encode
  rw [hv, if_pos rfl, Int.toNat_natCast]
  by_cases h1 : c < 128
  · rw [encodeRuneZ_one (by omega) (by omega)]
    simp only [if_pos h1, List.map_cons, List.map_nil]
    rw [hb _ c rfl]
  by_cases h2 : c < 2048
  · rw [encodeRuneZ_two (by omega) (by omega)]
    simp only [if_neg h1, if_pos h2, List.map_cons, List.map_nil]
    rw [hb _ (192 + c / 64) (by omega), hb _ (128 + c % 64) (by omega)]
  by_cases h3 : c < 65536
  · rw [encodeRuneZ_three (by omega)]
    simp only [if_neg h1, if_neg h2, if_pos h3, List.map_cons, List.map_nil]
    rw [hb _ (224 + c / 4096) (by omega), hb _ (128 + c / 64 % 64) (by omega), hb _ (128 + c % 64) (by omega)]
  · rw [encodeRuneZ_four (by omega) (by omega)]
    simp only [if_neg h1, if_neg h2, if_neg h3, List.map_cons, List.map_nil]
    rw [hb _ (240 + c / 262144) (by omega), hb _ (128 + c / 4096 % 64) (by omega), hb _ (128 + c / 64 % 64) (by omega), hb _ (128 + c % 64) (by omega)]
/-- Runes, written one behind the other. -/
theorem enc_cat (g : List (Nat × List UInt8)) (a : List UInt8) (h : ∀ s ∈ g, s.1 ≤ 1114111 ∧ encodeRune (s.1 : Int) = s.2) :
    (g.map fun s => (s.1 : Int)).foldl (fun a c => a ++ Utf8.encode c) ⟨a.toArray⟩ = ⟨(a ++ cat g).toArray⟩ := by
  induction g generalizing a with
  | nil => simp [cat]
  | cons s r ih =>
    obtain ⟨h1, h2⟩ := h s (by simp)
    have e : (⟨a.toArray⟩ : ByteArray) ++ Utf8.encode (s.1 : Int) = ⟨(a ++ s.2).toArray⟩ := by
      rw [enc_eq _ h1, h2]
      apply ByteArray.ext
      apply Array.ext'
      simp
    rw [List.map_cons, List.foldl_cons, e, ih _ (fun s hs => h s (by simp [hs])), cat, List.append_assoc]

theorem key_law (l : List UInt8) (hl : l.length ≤ 9223372036854775806) : FCv Tryd.prog 13 [str l] (.tup [str (if may l then l.map foldB else []), i64 (if may l then 0 else 5)]) := by
  refine FCv_of_awp (fn := Tryd.f13) (c := bodyC Tryd.f13) Tryd.func13 rfl (of_decide_eq_true rfl) [] ?_
  conv => whnf
  have hm := may_law l hl
  cases h : may l with
  | false =>
    rw [h] at hm
    refine ⟨_, hm, ?_⟩
    conv => whnf
    exact ⟨.inl rfl, .inl rfl, trivial⟩
  | true =>
    rw [h] at hm
    refine ⟨_, hm, ?_⟩
    conv => whnf
    have h24 : (segs l).length ≤ 24 := by
      unfold may mayG at h
      simp only [Bool.and_eq_true, decide_eq_true_eq] at h
      exact h.1.1.2
    have hruns : ∀ g, (segs l).map (fun s => (foldN s.1, s.2.map foldB)) = g → ∀ s ∈ g, s.1 ≤ 1114111 ∧ encodeRune (s.1 : Int) = s.2 := by
      rintro g rfl s hs
      rw [← segs_fold] at hs
      refine ⟨seg_rune_le hs, seg_encode hs ?_⟩
      have := may_right h
      rw [← right_fold] at this
      have := List.all_eq_true.1 this s hs
      simpa using this
    refine loop_intro (fun y : { y : Nat × List (Nat × List UInt8) // y.2 ++ segs (l.drop y.1) = segs l } => ⟨[(0, str l), (4, .sl (some 1) 1 (runesR (y.1.2.map fun s => ((foldN s.1 : Nat) : Int)))), (11, .itr 0)], [(0, .iter ⟨l.toArray⟩ y.1.1), (1, .tok 1 y.1.2.length)], 29, 2, []⟩) (fun y => l.length - y.1.1) ⟨(0, []), by simp⟩ ?_ ?_
    · exact Wk.intro [(1, 1)] rfl (fun p hp => by obtain rfl := List.mem_singleton.1 hp; exact ⟨Nat.le_of_ble_eq_true rfl, Nat.le_of_ble_eq_true rfl, fun q hq _ => List.mem_singleton.1 hq⟩) ⟨.same rfl trivial, .inr (.inr (.inr (.inl ⟨rfl, 1, 1, rfl, by simp⟩))), .same rfl (by exact rfl), trivial⟩ ⟨⟨rfl, .inl ⟨rfl, trivial⟩⟩, ⟨rfl, .inr (.inl ⟨1, by simp, rfl⟩)⟩, trivial⟩
    rintro ⟨⟨p, g⟩, h1⟩
    dsimp only at h1 ⊢
    conv => whnf
    by_cases hp : p < l.length
    · rw [lt_str hp, dec_at]
      rw [segs_at hp] at h1
      obtain ⟨hw1, hw2⟩ := width_le hp
      have hg : g.length < 24 := by
        have := congrArg List.length h1
        rw [List.length_append, List.length_cons] at this
        omega
      have hc := decodeL_rune (l.drop p)
      have nb : (Tryd.prog.types[21]).bytes = 4 := rfl
      have hrl : (runesR (g.map fun s => ((foldN s.1 : Nat) : Int))).length = g.length := by simp [runesR]
      have hend : ∀ c : Int, c = foldN (decodeL (l.drop p)).1 → T.sl (some 1) 1 (runesR (g.map fun s => ((foldN s.1 : Nat) : Int)) ++ [[.lit (.int .i32 c)]]) = .sl (some 1) 1 (runesR ((g ++ [((decodeL (l.drop p)).1, (l.drop p).take (decodeL (l.drop p)).2)]).map fun s => ((foldN s.1 : Nat) : Int))) := by
        rintro c rfl
        simp [runesR]
      conv => whnf
      have h1' : (g ++ [((decodeL (l.drop p)).1, (l.drop p).take (decodeL (l.drop p)).2)]) ++ segs (l.drop (p + (decodeL (l.drop p)).2)) = segs l := by rw [List.append_assoc]; exact h1
      have hlen : (g ++ [((decodeL (l.drop p)).1, (l.drop p).take (decodeL (l.drop p)).2)]).length = g.length + 1 := by simp
      refine br_intro (fun h2 => ?_) (fun h2 => ?_) <;> (rw [h2]; conv => whnf)
      · have h2 := of_decide_eq_true h2
        refine br_intro (fun h3 => ?_) (fun h3 => ?_) <;> (rw [h3]; conv => whnf)
        · have h3 := of_decide_eq_true h3
          refine ⟨hrl, by rw [hrl, nb]; show (g.length + 1) * 4 ≤ _; omega, by rw [hrl]; show g.length + 1 ≤ _; omega, ?_⟩
          conv => whnf
          refine Nx.intro ⟨(p + (decodeL (l.drop p)).2, _), h1'⟩ (by dsimp only; omega) ?_
          refine Wk.intro [] rfl (fun p hp => by cases hp) ⟨.same rfl trivial, .same (hend _ ?_) (by exact rfl), .same rfl (by exact rfl), trivial⟩ ⟨⟨rfl, .inl ⟨rfl, trivial⟩⟩, ⟨rfl, .inl ⟨?_, trivial⟩⟩, trivial⟩
          · rw [wrap32 _ (by omega) (by omega)]; unfold foldN; rw [if_pos (by omega)]; omega
          · show some (Blk.tok 1 ((runesR (g.map fun s => ((foldN s.1 : Nat) : Int))).length + 1)) = _
            rw [hrl, hlen]
        · have h3 := of_decide_eq_false h3
          refine ⟨hrl, by rw [hrl, nb]; show (g.length + 1) * 4 ≤ _; omega, by rw [hrl]; show g.length + 1 ≤ _; omega, ?_⟩
          conv => whnf
          refine Nx.intro ⟨(p + (decodeL (l.drop p)).2, _), h1'⟩ (by dsimp only; omega) ?_
          refine Wk.intro [] rfl (fun p hp => by cases hp) ⟨.same rfl trivial, .same (hend _ ?_) (by exact rfl), .same rfl (by exact rfl), trivial⟩ ⟨⟨rfl, .inl ⟨rfl, trivial⟩⟩, ⟨rfl, .inl ⟨?_, trivial⟩⟩, trivial⟩
          · unfold foldN; rw [if_neg (by omega)]
          · show some (Blk.tok 1 ((runesR (g.map fun s => ((foldN s.1 : Nat) : Int))).length + 1)) = _
            rw [hrl, hlen]
      · have h2 := of_decide_eq_false h2
        refine ⟨hrl, by rw [hrl, nb]; show (g.length + 1) * 4 ≤ _; omega, by rw [hrl]; show g.length + 1 ≤ _; omega, ?_⟩
        conv => whnf
        refine Nx.intro ⟨(p + (decodeL (l.drop p)).2, _), h1'⟩ (by dsimp only; omega) ?_
        refine Wk.intro [] rfl (fun p hp => by cases hp) ⟨.same rfl trivial, .same (hend _ ?_) (by exact rfl), .same rfl (by exact rfl), trivial⟩ ⟨⟨rfl, .inl ⟨rfl, trivial⟩⟩, ⟨rfl, .inl ⟨?_, trivial⟩⟩, trivial⟩
        · unfold foldN; rw [if_neg (by omega)]
        · show some (Blk.tok 1 ((runesR (g.map fun s => ((foldN s.1 : Nat) : Int))).length + 1)) = _
          rw [hrl, hlen]
    · rw [ge_str hp]
      rw [segs_end hp, List.append_nil] at h1
      subst h1
      conv => whnf
      refine ⟨_, ⟨rfl, rfl⟩, ?_⟩
      conv => whnf
      refine ⟨.inl (congrArg (fun z => T.lit (.string z)) ?_), .inl rfl, trivial⟩
      have e := enc_cat ((segs l).map fun s => (foldN s.1, s.2.map foldB)) [] (hruns _ rfl)
      rw [← segs_fold, cat_segs, segs_fold, List.map_map, List.nil_append] at e
      exact e

theorem cut_law (l : List UInt8) (n : Int) (h1 : -9223372036854775808 ≤ n) (h2 : n ≤ 9223372036854775807) : FCv Tryd.prog 17 [str l, i64 n] (str (cut l n)) := by
  refine FCv_of_awp (fn := Tryd.f17) (c := bodyC Tryd.f17) Tryd.func17 rfl (of_decide_eq_true rfl) [] ?_
  conv => whnf
  refine loop_intro (fun y : { y : Nat × Int // y.2 ≤ n ∧ -9223372036854775808 ≤ y.2 ∧ cut l n = l.take y.1 ++ cat ((segs (l.drop y.1)).take y.2.toNat) } => ⟨[(0, str l), (1, i64 y.1.2), (7, .itr 0)], [(0, .iter ⟨l.toArray⟩ y.1.1)], 19, 1, []⟩) (fun y => l.length - y.1.1) ⟨(0, n), by simp [cut, h1]⟩ ?_ ?_
  · exact Wk.intro [] rfl (fun p hp => by cases hp) ⟨.same rfl trivial, .same rfl trivial, .same rfl (by exact rfl), trivial⟩ ⟨⟨rfl, .inl ⟨rfl, trivial⟩⟩, trivial⟩
  rintro ⟨⟨p, m⟩, h3, h4, h5⟩
  dsimp only at h3 h4 h5 ⊢
  conv => whnf
  by_cases hp : p < l.length
  · rw [lt_str hp, dec_at]
    rw [segs_at hp] at h5
    obtain ⟨hw1, hw2⟩ := width_le hp
    conv => whnf
    refine br_intro (fun h => ?_) (fun h => ?_) <;> (rw [h]; conv => whnf)
    · have h := of_decide_eq_true h
      refine ⟨by omega, ?_⟩
      conv => whnf
      rw [str_size, str_ext, Int.toNat_natCast]
      refine ⟨⟨Nat.zero_le _, by omega⟩, ?_⟩
      conv => whnf
      refine .inl (congrArg str ?_)
      rw [h5, show m.toNat = 0 by omega]
      simp [cat]
    · have h := of_decide_eq_false h
      rw [wrap_i64 _ (by omega) (by omega)]
      refine Nx.intro ⟨(p + (decodeL (l.drop p)).2, m - 1), by dsimp only; omega, by dsimp only; omega, ?_⟩ (by dsimp only; omega) ?_
      · dsimp only
        rw [h5, show m.toNat = (m - 1).toNat + 1 by omega, List.take_succ_cons, cat, ← List.append_assoc, List.take_add]
      exact Wk.intro [] rfl (fun p hp => by cases hp) ⟨.same rfl trivial, .same rfl trivial, .same rfl (by exact rfl), trivial⟩ ⟨⟨rfl, .inl ⟨rfl, trivial⟩⟩, trivial⟩
  · rw [ge_str hp]
    rw [segs_end hp] at h5
    conv => whnf
    refine .inl (congrArg str ?_)
    rw [h5, List.take_of_length_le (by omega)]
    simp [cat]

theorem empty_ne (l : List UInt8) : (!(ByteArray.toList ⟨l.toArray⟩ == ByteArray.toList ⟨#[]⟩)) = !l.isEmpty := by
  congr 1
  rw [toList_data, toList_data, Bool.eq_iff_iff, beq_iff_eq, List.isEmpty_iff]
theorem empty_eq (l : List UInt8) : (ByteArray.toList ⟨l.toArray⟩ == ByteArray.toList ⟨#[]⟩) = l.isEmpty := by
  rw [toList_data, toList_data, Bool.eq_iff_iff, beq_iff_eq, List.isEmpty_iff]
theorem rns_cons {l : List UInt8} (hne : l ≠ []) : rns l = (decodeL l).1 :: rns (l.drop (decodeL l).2) := by
  unfold rns; rw [segs_cons hne]; rfl
theorem str_tail0 (l : List UInt8) (p : Nat) : ByteArray.extract ⟨l.toArray⟩ (Int.toNat (p : Int)) (ByteArray.size ⟨l.toArray⟩) = ⟨(l.drop p).toArray⟩ := str_tail l p
theorem less_law (a b : List UInt8) : FCv Tryd.prog 19 [str a, str b] (tb (less a b)) := by
  refine FCv_of_awp (fn := Tryd.f19) (c := bodyC Tryd.f19) Tryd.func19 rfl (of_decide_eq_true rfl) [] ?_
  conv => whnf
  refine loop_intro (fun y : { y : List UInt8 × List UInt8 // less a b = less y.1 y.2 } => ⟨[(0, str y.1.1), (1, str y.1.2)], [], 43, 0, []⟩) (fun y => y.1.1.length) ⟨(a, b), rfl⟩ ?_ ?_
  · exact Wk.intro [] rfl (fun p hp => by cases hp) ⟨.same rfl trivial, .same rfl trivial, trivial⟩ trivial
  rintro ⟨⟨c, d⟩, h1⟩
  dsimp only at h1 ⊢
  conv => whnf
  rw [empty_ne]
  cases hc : c.isEmpty with
  | true =>
    conv => whnf
    rw [empty_eq, hc]
    conv => whnf
    rw [empty_ne]
    refine .inl (congrArg tb ?_)
    rw [h1, List.isEmpty_iff.1 hc]
    cases d with
    | nil => rfl
    | cons x r => unfold less; rw [rns_cons (List.cons_ne_nil x r)]; rfl
  | false =>
    conv => whnf
    rw [empty_ne]
    have hcn : c ≠ [] := by rintro rfl; cases hc
    cases hd : d.isEmpty with
    | true =>
      conv => whnf
      rw [empty_eq, hc]
      conv => whnf
      refine .inl (congrArg tb ?_)
      rw [h1, List.isEmpty_iff.1 hd]
      unfold less; rw [rns_cons hcn]; rfl
    | false =>
      conv => whnf
      have hdn : d ≠ [] := by rintro rfl; cases hd
      refine ⟨_, decode_law c hcn, ?_⟩
      conv => whnf
      refine ⟨_, decode_law d hdn, ?_⟩
      conv => whnf
      have hl : less a b = if (decodeL c).1 = (decodeL d).1 then less (c.drop (decodeL c).2) (d.drop (decodeL d).2) else decide ((decodeL c).1 < (decodeL d).1) := by
        rw [h1]; unfold less; rw [rns_cons hcn, rns_cons hdn]; rfl
      have hw1 := decodeL_le c hcn
      have hw2 := decodeL_le d hdn
      have hw := decodeL_width c
      refine br_intro (fun h => ?_) (fun h => ?_) <;> (rw [h]; conv => whnf)
      · rw [bne_iff_ne] at h
        refine .inl (congrArg tb ?_)
        rw [hl, if_neg (by omega)]
        exact decide_eq_decide.2 (by omega)
      · rw [bne_eq_false_iff_eq] at h
        refine ⟨by omega, ?_⟩
        conv => whnf
        rw [str_tail, str_size]
        refine ⟨⟨by omega, by omega⟩, ?_⟩
        conv => whnf
        refine ⟨by omega, ?_⟩
        conv => whnf
        rw [str_tail, str_size]
        refine ⟨⟨by omega, by omega⟩, ?_⟩
        conv => whnf
        have hlt : 0 < c.length := List.length_pos_iff.2 hcn
        refine Nx.intro ⟨(c.drop (decodeL c).2, d.drop (decodeL d).2), by rw [hl, if_pos (by omega)]⟩ (by dsimp only; rw [List.length_drop]; omega) ?_
        exact Wk.intro [] rfl (fun p hp => by cases hp) ⟨.same rfl trivial, .same rfl trivial, trivial⟩ trivial

end Go.AW.Nam
