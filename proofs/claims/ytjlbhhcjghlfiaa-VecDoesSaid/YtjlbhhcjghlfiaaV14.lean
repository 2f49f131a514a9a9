/- Numbers of many digits: added, taken away. -/
import Derived.Test.YtjlbhhcjghlfiaaV13
set_option linter.unusedVariables false
set_option linter.unusedSimpArgs false
namespace Go.AW.Vec
open Go Go.AW Go.Proofs
set_option maxRecDepth 10000
set_option pp.maxSteps 600
def stp (m : Bool) (x y c : Nat) : Nat × Nat :=
  if m = true then (if x < y + c then (x + 10 - y - c, 1) else (x - y - c, 0)) else (if 10 ≤ x + y + c then (x + y + c - 10, 1) else (x + y + c, 0))
def runP (a b : List Nat) (m : Bool) : Nat → List Nat × Nat
  | 0 => ([], 0)
  | i + 1 => ((runP a b m i).1 ++ [(stp m (dig a i) (dig b i) (runP a b m i).2).1], (stp m (dig a i) (dig b i) (runP a b m i).2).2)
theorem runP_len (a b : List Nat) (m : Bool) (i : Nat) : (runP a b m i).1.length = i := by
  induction i with
  | zero => rfl
  | succ i ih => simp [runP, ih]
theorem stp_ok (m : Bool) {x y c : Nat} (hx : x < 10) (hy : y < 10) (hc : c ≤ 1) : (stp m x y c).1 < 10 ∧ (stp m x y c).2 ≤ 1 := by
  unfold stp
  cases m
  · simp only [Bool.false_eq_true, if_false]; split <;> simp only <;> omega
  · simp only [if_true]; split <;> simp only <;> omega
theorem runP_ok {a b : List Nat} (ha : Dg a) (hb : Dg b) (m : Bool) : ∀ i, Dg (runP a b m i).1 ∧ (runP a b m i).2 ≤ 1
  | 0 => ⟨by simp [runP, Dg], by simp [runP]⟩
  | i + 1 => by
    obtain ⟨h1, h2⟩ := runP_ok ha hb m i
    obtain ⟨h3, h4⟩ := stp_ok m (dig_lt ha i) (dig_lt hb i) h2
    refine ⟨?_, h4⟩
    intro d hd
    simp only [runP, List.mem_append, List.mem_singleton] at hd
    rcases hd with hd | rfl
    · exact h1 d hd
    · exact h3
theorem runP_add {a b : List Nat} (ha : Dg a) (hb : Dg b) : ∀ i, valD (runP a b false i).1 + (runP a b false i).2 * 10 ^ i = pv a i + pv b i
  | 0 => by simp [runP, valD, pv]
  | i + 1 => by
    have ih := runP_add ha hb i
    have hc := (runP_ok ha hb false i).2
    simp only [runP, valD_append, runP_len, pv, Nat.pow_succ]
    generalize (runP a b false i).2 = c at *
    generalize valD (runP a b false i).1 = v at *
    generalize dig a i = x at *
    generalize dig b i = y at *
    generalize 10 ^ i = q at *
    unfold stp
    simp only [Bool.false_eq_true, if_false]
    split
    · rename_i h
      have e : (x + y + c - 10) * q + 10 * q = x * q + y * q + c * q := by rw [← Nat.add_mul, ← Nat.add_mul, ← Nat.add_mul]; congr 1; omega
      simp only; omega
    · have e : (x + y + c) * q = x * q + y * q + c * q := by rw [Nat.add_mul, Nat.add_mul]
      simp only; omega
theorem runP_sub {a b : List Nat} (ha : Dg a) (hb : Dg b) : ∀ i, valD (runP a b true i).1 + pv b i = pv a i + (runP a b true i).2 * 10 ^ i
  | 0 => by simp [runP, valD, pv]
  | i + 1 => by
    have ih := runP_sub ha hb i
    have hc := (runP_ok ha hb true i).2
    simp only [runP, valD_append, runP_len, pv, Nat.pow_succ]
    generalize (runP a b true i).2 = c at *
    generalize valD (runP a b true i).1 = v at *
    generalize hx : dig a i = x at *
    generalize hy : dig b i = y at *
    have hyl : y < 10 := by rw [← hy]; exact dig_lt hb i
    generalize 10 ^ i = q at *
    unfold stp
    simp only [if_true]
    split
    · rename_i h
      have e : (x + 10 - y - c) * q + y * q + c * q = x * q + 10 * q := by rw [← Nat.add_mul, ← Nat.add_mul, ← Nat.add_mul]; congr 1; omega
      simp only; omega
    · have e : (x - y - c) * q + y * q + c * q = x * q := by rw [← Nat.add_mul, ← Nat.add_mul]; congr 1; omega
      simp only; omega

theorem plus_end {a b : List Nat} (ha : Dg a) (hb : Dg b) : valD (runP a b false (max a.length b.length + 1)).1 = valD a + valD b := by
  have h := runP_add ha hb (max a.length b.length + 1)
  rw [pv_all a _ (by omega), pv_all b _ (by omega)] at h
  have h1 : valD a < 10 ^ max a.length b.length := Nat.lt_of_lt_of_le (valD_lt ha) (Nat.pow_le_pow_right (by decide) (by omega))
  have h2 : valD b < 10 ^ max a.length b.length := Nat.lt_of_lt_of_le (valD_lt hb) (Nat.pow_le_pow_right (by decide) (by omega))
  have hc := (runP_ok ha hb false (max a.length b.length + 1)).2
  rw [Nat.pow_succ] at h
  have : (runP a b false (max a.length b.length + 1)).2 = 0 := by
    rcases Nat.lt_or_ge 0 (runP a b false (max a.length b.length + 1)).2 with h3 | h3
    · have e : (runP a b false (max a.length b.length + 1)).2 = 1 := by omega
      rw [e] at h; omega
    · omega
  rw [this] at h; omega
theorem minus_end {a b : List Nat} (ha : Dg a) (hb : Dg b) (hab : valD b ≤ valD a) : valD (runP a b true (max a.length b.length + 1)).1 = valD a - valD b := by
  have h := runP_sub ha hb (max a.length b.length + 1)
  rw [pv_all a _ (by omega), pv_all b _ (by omega)] at h
  have h1 : valD (runP a b true (max a.length b.length + 1)).1 < 10 ^ (max a.length b.length + 1) := by
    have := valD_lt (runP_ok ha hb true (max a.length b.length + 1)).1
    rwa [runP_len] at this
  have hc := (runP_ok ha hb true (max a.length b.length + 1)).2
  have : (runP a b true (max a.length b.length + 1)).2 = 0 := by
    rcases Nat.lt_or_ge 0 (runP a b true (max a.length b.length + 1)).2 with h3 | h3
    · have e : (runP a b true (max a.length b.length + 1)).2 = 1 := by omega
      rw [e] at h; omega
    · omega
  rw [this] at h; omega
def fin (a b : List Nat) (m : Bool) : Nat := valD (runP a b m (max a.length b.length + 1)).1

theorem digR_append (l : List Nat) (d : Nat) : digR l ++ [[i64 (d : Int)]] = digR (l ++ [d]) := by simp [digR]
theorem digR_take (l : List Nat) (n : Nat) : (digR l).take n = digR (l.take n) := (List.map_take ..).symm

theorem plusD_law (a b : List Nat) (m : Bool) (ha : Dg a) (hb : Dg b) (hla : a.length ≤ 1000) (hlb : b.length ≤ 1000) : FCv Try.prog 30 [digT a, digT b, tb m] (digT (digs (fin a b m))) := by
  refine FCv_of_awp (fn := Try.f30) (c := bodyC Try.f30) Try.func30 rfl (of_decide_eq_true rfl) [] ?_
  conv => whnf
  refine br_intro (fun h => ?_) (fun h => ?_)
  · rw [h]
    have h1 := of_decide_eq_true h
    rw [digR_len, digR_len] at h1
    conv => whnf
    refine loop_intro (fun i : Fin (max a.length b.length + 2) => ⟨[(0, digT a), (1, digT b), (2, tb m), (7, i64 (max a.length b.length : Nat)), (8, .sl (some 0) 1 (digR (runP a b m i.val).1)), (9, i64 ((runP a b m i.val).2 : Int)), (10, i64 i.val)], [(0, .tok 1 (digR (runP a b m i.val).1).length)], 75, 1, []⟩) (fun i => max a.length b.length + 1 - i.val) 0 ?_ ?_
    · refine Wk.intro [] rfl (fun p hp => by cases hp) ⟨.same rfl trivial, .same rfl trivial, .same rfl trivial, .same ?_ trivial, .same rfl (by exact rfl), .same rfl trivial, .same rfl trivial, trivial⟩
        ⟨⟨rfl, .inl ⟨rfl, trivial⟩⟩, trivial⟩
      exact i64_cong (by rw [digR_len]; omega)
    intro i
    conv => whnf
    refine br_intro (fun h => ?_) (fun h => ?_)
    · rw [h]
      have hi : i.val ≤ max a.length b.length := by have h' : ((i.val : Nat) : Int) ≤ ((max a.length b.length : Nat) : Int) := of_decide_eq_true h; omega
      have hx := dig_lt ha i.val
      have hy := dig_lt hb i.val
      have hc := (runP_ok ha hb m i.val).2
      conv => whnf
      refine ⟨_, digit_law a i.val (by omega) (by omega), ?_⟩
      conv => whnf
      refine ⟨_, digit_law b i.val (by omega) (by omega), ?_⟩
      conv => whnf
      cases m with
      | false =>
        conv => whnf
        have e1 : IntKind.i64.wrap (IntKind.i64.wrap ((dig a i.val : Int) + (dig b i.val : Int)) + ((runP a b false i.val).2 : Int)) = ((dig a i.val + dig b i.val + (runP a b false i.val).2 : Nat) : Int) := by
          rw [wrap_i64 ((dig a i.val : Int) + (dig b i.val : Int)) (by omega) (by omega), wrap_i64 _ (by omega) (by omega)]; omega
        rw [e1, show decide (((dig a i.val + dig b i.val + (runP a b false i.val).2 : Nat) : Int) < 0) = false from decide_eq_false (by omega)]
        conv => whnf
        refine br_intro (fun h => ?_) (fun h => ?_)
        · rw [h]
          have h10 := of_decide_eq_true h
          conv => whnf
          have hst : stp false (dig a i.val) (dig b i.val) (runP a b false i.val).2 = (dig a i.val + dig b i.val + (runP a b false i.val).2 - 10, 1) := by unfold stp; rw [if_neg (by decide), if_pos (by omega)]

          refine ⟨rfl, ?_, ?_, ?_⟩
          · rw [digR_len, runP_len]
            show (i.val + 1) * 8 ≤ _
            omega
          · rw [digR_len, runP_len]
            show i.val + 1 ≤ _
            omega
          conv => whnf
          refine Nx.intro ⟨i.val + 1, by omega⟩ (by simp only; omega) ?_
          refine Wk.intro [] rfl (fun p hp => by cases hp) ⟨.same rfl trivial, .same rfl trivial, .same rfl trivial, .same rfl trivial, .same ?_ (by exact rfl), .same ?_ trivial, .same ?_ trivial, trivial⟩
            ⟨⟨rfl, .inl ⟨?_, trivial⟩⟩, trivial⟩
          · show T.sl (some 0) 1 (digR (runP a b false i.val).1 ++ [[_]]) = T.sl (some 0) 1 (digR ((runP a b false i.val).1 ++ [(stp false (dig a i.val) (dig b i.val) (runP a b false i.val).2).1]))
            rw [hst, ← digR_append]
            exact congrArg (fun z => T.sl (some 0) 1 (digR (runP a b false i.val).1 ++ [[z]])) (i64_cong (by rw [wrap_i64 _ (by omega) (by omega)]; omega))
          · show _ = i64 (((stp false (dig a i.val) (dig b i.val) (runP a b false i.val).2).2 : Nat) : Int)
            rw [hst]; rfl
          · exact i64_cong (i64w (by simp only; omega) (by simp only; omega) (by simp only; omega))
          · show some (Blk.tok 1 ((digR (runP a b false i.val).1).length + 1)) = some (Blk.tok 1 (digR (runP a b false (i.val + 1)).1).length)
            rw [digR_len, digR_len, runP_len, runP_len]

        · rw [h]
          have h10 := of_decide_eq_false h
          conv => whnf
          have hst : stp false (dig a i.val) (dig b i.val) (runP a b false i.val).2 = (dig a i.val + dig b i.val + (runP a b false i.val).2, 0) := by unfold stp; rw [if_neg (by decide), if_neg (by omega)]

          refine ⟨rfl, ?_, ?_, ?_⟩
          · rw [digR_len, runP_len]
            show (i.val + 1) * 8 ≤ _
            omega
          · rw [digR_len, runP_len]
            show i.val + 1 ≤ _
            omega
          conv => whnf
          refine Nx.intro ⟨i.val + 1, by omega⟩ (by simp only; omega) ?_
          refine Wk.intro [] rfl (fun p hp => by cases hp) ⟨.same rfl trivial, .same rfl trivial, .same rfl trivial, .same rfl trivial, .same ?_ (by exact rfl), .same ?_ trivial, .same ?_ trivial, trivial⟩
            ⟨⟨rfl, .inl ⟨?_, trivial⟩⟩, trivial⟩
          · show T.sl (some 0) 1 (digR (runP a b false i.val).1 ++ [[_]]) = T.sl (some 0) 1 (digR ((runP a b false i.val).1 ++ [(stp false (dig a i.val) (dig b i.val) (runP a b false i.val).2).1]))
            rw [hst, ← digR_append]
            exact congrArg (fun z => T.sl (some 0) 1 (digR (runP a b false i.val).1 ++ [[z]])) (i64_cong rfl)
          · show _ = i64 (((stp false (dig a i.val) (dig b i.val) (runP a b false i.val).2).2 : Nat) : Int)
            rw [hst]; rfl
          · exact i64_cong (i64w (by simp only; omega) (by simp only; omega) (by simp only; omega))
          · show some (Blk.tok 1 ((digR (runP a b false i.val).1).length + 1)) = some (Blk.tok 1 (digR (runP a b false (i.val + 1)).1).length)
            rw [digR_len, digR_len, runP_len, runP_len]

      | true =>
        conv => whnf
        refine ⟨_, digit_law a i.val (by omega) (by omega), ?_⟩
        conv => whnf
        refine ⟨_, digit_law b i.val (by omega) (by omega), ?_⟩
        conv => whnf
        have e1 : IntKind.i64.wrap (IntKind.i64.wrap ((dig a i.val : Int) - (dig b i.val : Int)) - ((runP a b true i.val).2 : Int)) = (dig a i.val : Int) - dig b i.val - (runP a b true i.val).2 := by
          rw [wrap_i64 ((dig a i.val : Int) - (dig b i.val : Int)) (by omega) (by omega), wrap_i64 _ (by omega) (by omega)]
        rw [e1]
        refine br_intro (fun h => ?_) (fun h => ?_)
        · rw [h]
          have h0 := of_decide_eq_true h
          conv => whnf
          have e2 : IntKind.i64.wrap ((dig a i.val : Int) - dig b i.val - (runP a b true i.val).2 + 10) = ((dig a i.val + 10 - dig b i.val - (runP a b true i.val).2 : Nat) : Int) := by
            rw [wrap_i64 _ (by omega) (by omega)]; omega
          rw [e2, show decide (((dig a i.val + 10 - dig b i.val - (runP a b true i.val).2 : Nat) : Int) ≥ 10) = false from decide_eq_false (by omega)]
          conv => whnf
          have hst : stp true (dig a i.val) (dig b i.val) (runP a b true i.val).2 = (dig a i.val + 10 - dig b i.val - (runP a b true i.val).2, 1) := by unfold stp; rw [if_pos rfl, if_pos (by omega)]

          refine ⟨rfl, ?_, ?_, ?_⟩
          · rw [digR_len, runP_len]
            show (i.val + 1) * 8 ≤ _
            omega
          · rw [digR_len, runP_len]
            show i.val + 1 ≤ _
            omega
          conv => whnf
          refine Nx.intro ⟨i.val + 1, by omega⟩ (by simp only; omega) ?_
          refine Wk.intro [] rfl (fun p hp => by cases hp) ⟨.same rfl trivial, .same rfl trivial, .same rfl trivial, .same rfl trivial, .same ?_ (by exact rfl), .same ?_ trivial, .same ?_ trivial, trivial⟩
            ⟨⟨rfl, .inl ⟨?_, trivial⟩⟩, trivial⟩
          · show T.sl (some 0) 1 (digR (runP a b true i.val).1 ++ [[_]]) = T.sl (some 0) 1 (digR ((runP a b true i.val).1 ++ [(stp true (dig a i.val) (dig b i.val) (runP a b true i.val).2).1]))
            rw [hst, ← digR_append]
            exact congrArg (fun z => T.sl (some 0) 1 (digR (runP a b true i.val).1 ++ [[z]])) (i64_cong rfl)
          · show _ = i64 (((stp true (dig a i.val) (dig b i.val) (runP a b true i.val).2).2 : Nat) : Int)
            rw [hst]; rfl
          · exact i64_cong (i64w (by simp only; omega) (by simp only; omega) (by simp only; omega))
          · show some (Blk.tok 1 ((digR (runP a b true i.val).1).length + 1)) = some (Blk.tok 1 (digR (runP a b true (i.val + 1)).1).length)
            rw [digR_len, digR_len, runP_len, runP_len]

        · rw [h]
          have h0 := of_decide_eq_false h
          conv => whnf
          rw [show decide ((dig a i.val : Int) - dig b i.val - (runP a b true i.val).2 ≥ 10) = false from decide_eq_false (by omega)]
          conv => whnf
          have hst : stp true (dig a i.val) (dig b i.val) (runP a b true i.val).2 = (dig a i.val - dig b i.val - (runP a b true i.val).2, 0) := by unfold stp; rw [if_pos rfl, if_neg (by omega)]

          refine ⟨rfl, ?_, ?_, ?_⟩
          · rw [digR_len, runP_len]
            show (i.val + 1) * 8 ≤ _
            omega
          · rw [digR_len, runP_len]
            show i.val + 1 ≤ _
            omega
          conv => whnf
          refine Nx.intro ⟨i.val + 1, by omega⟩ (by simp only; omega) ?_
          refine Wk.intro [] rfl (fun p hp => by cases hp) ⟨.same rfl trivial, .same rfl trivial, .same rfl trivial, .same rfl trivial, .same ?_ (by exact rfl), .same ?_ trivial, .same ?_ trivial, trivial⟩
            ⟨⟨rfl, .inl ⟨?_, trivial⟩⟩, trivial⟩
          · show T.sl (some 0) 1 (digR (runP a b true i.val).1 ++ [[_]]) = T.sl (some 0) 1 (digR ((runP a b true i.val).1 ++ [(stp true (dig a i.val) (dig b i.val) (runP a b true i.val).2).1]))
            rw [hst, ← digR_append]
            exact congrArg (fun z => T.sl (some 0) 1 (digR (runP a b true i.val).1 ++ [[z]])) (i64_cong (by omega))
          · show _ = i64 (((stp true (dig a i.val) (dig b i.val) (runP a b true i.val).2).2 : Nat) : Int)
            rw [hst]; rfl
          · exact i64_cong (i64w (by simp only; omega) (by simp only; omega) (by simp only; omega))
          · show some (Blk.tok 1 ((digR (runP a b true i.val).1).length + 1)) = some (Blk.tok 1 (digR (runP a b true (i.val + 1)).1).length)
            rw [digR_len, digR_len, runP_len, runP_len]

    · rw [h]
      have hi : i.val = max a.length b.length + 1 := by have h' : ¬ ((i.val : Nat) : Int) ≤ ((max a.length b.length : Nat) : Int) := of_decide_eq_false h; omega
      conv => whnf
      refine loop_intro (fun q : {l : List Nat // Dg l ∧ valD l = fin a b m ∧ l.length ≤ 100000} => ⟨[(8, .sl none 1 (digR q.1))], [], 75, 0, []⟩) (fun q => q.1.length) ⟨(runP a b m i.val).1, (runP_ok ha hb m i.val).1, by rw [hi]; rfl, by rw [runP_len]; omega⟩ ?_ ?_
      · exact Wk.intro [] rfl (fun p hp => by cases hp) ⟨.inr (.inr (.inr (.inr ⟨_, _, _, rfl, rfl⟩))), trivial⟩ trivial
      rintro ⟨l, hl, hv, hll⟩
      dsimp only
      conv => whnf
      refine br_intro (fun h => ?_) (fun h => ?_)
      · rw [h]
        have h1 : 0 < l.length := by have := of_decide_eq_true h; rw [digR_len] at this; omega
        have hlast : l[l.length - 1]? = some l[l.length - 1] := List.getElem?_eq_getElem (by omega)
        conv => whnf
        have e3 : IntKind.i64.wrap (((digR l).length : Int) - 1) = ((l.length - 1 : Nat) : Int) := by rw [digR_len, wrap_i64 _ (by omega) (by omega)]; omega
        rw [e3]
        refine ⟨by omega, nthK_intro (digR_get (by rw [Int.toNat_natCast]; exact hlast)) ?_⟩
        conv => whnf
        by_cases hz : l[l.length - 1] = 0
        · rw [hz]
          conv => whnf
          rw [e3]
          refine ⟨by omega, ?_⟩
          conv => whnf
          refine ⟨⟨by omega, by rw [digR_len]; omega⟩, ?_⟩
          conv => whnf
          have hcut : l = l.take (l.length - 1) ++ [0] := by
            conv => lhs; rw [← List.take_append_drop (l.length - 1) l]
            congr 1
            rw [List.drop_eq_getElem_cons (by omega), hz, List.drop_of_length_le (by omega)]
          refine Nx.intro ⟨l.take (l.length - 1), fun d hd => hl d (List.mem_of_mem_take hd), ?_, by rw [List.length_take]; omega⟩ (by simp only [List.length_take]; omega) ?_
          · rw [← hv]
            conv => rhs; rw [hcut]
            rw [valD_append]; omega
          · refine Wk.intro [] rfl (fun p hp => by cases hp) ⟨.same ?_ trivial, trivial⟩ trivial
            rw [List.drop_zero]
            exact congrArg (T.sl none 1) (digR_take l (l.length - 1))
        · rw [show (((l[l.length - 1] : Nat) : Int) == 0) = false by rw [beq_eq_false_iff_ne]; omega]
          conv => whnf
          refine .inl (congrArg (fun z => T.sl none 1 (digR z)) ?_)
          rw [← hv, digs_of hl fun d hd => ?_]
          rw [List.getLast?_eq_getElem?, hlast] at hd
          cases hd; exact hz
      · rw [h]
        have h1 : l = [] := by have := of_decide_eq_false h; rw [digR_len] at this; exact List.length_eq_zero_iff.1 (by omega)
        conv => whnf
        refine .inl (congrArg (fun z => T.sl none 1 (digR z)) ?_)
        rw [← hv, h1]; rfl
  · rw [h]
    have h1 := of_decide_eq_false h
    rw [digR_len, digR_len] at h1
    conv => whnf
    refine loop_intro (fun i : Fin (max a.length b.length + 2) => ⟨[(0, digT a), (1, digT b), (2, tb m), (7, i64 (max a.length b.length : Nat)), (8, .sl (some 0) 1 (digR (runP a b m i.val).1)), (9, i64 ((runP a b m i.val).2 : Int)), (10, i64 i.val)], [(0, .tok 1 (digR (runP a b m i.val).1).length)], 75, 1, []⟩) (fun i => max a.length b.length + 1 - i.val) 0 ?_ ?_
    · refine Wk.intro [] rfl (fun p hp => by cases hp) ⟨.same rfl trivial, .same rfl trivial, .same rfl trivial, .same ?_ trivial, .same rfl (by exact rfl), .same rfl trivial, .same rfl trivial, trivial⟩
        ⟨⟨rfl, .inl ⟨rfl, trivial⟩⟩, trivial⟩
      exact i64_cong (by rw [digR_len]; omega)
    intro i
    conv => whnf
    refine br_intro (fun h => ?_) (fun h => ?_)
    · rw [h]
      have hi : i.val ≤ max a.length b.length := by have h' : ((i.val : Nat) : Int) ≤ ((max a.length b.length : Nat) : Int) := of_decide_eq_true h; omega
      have hx := dig_lt ha i.val
      have hy := dig_lt hb i.val
      have hc := (runP_ok ha hb m i.val).2
      conv => whnf
      refine ⟨_, digit_law a i.val (by omega) (by omega), ?_⟩
      conv => whnf
      refine ⟨_, digit_law b i.val (by omega) (by omega), ?_⟩
      conv => whnf
      cases m with
      | false =>
        conv => whnf
        have e1 : IntKind.i64.wrap (IntKind.i64.wrap ((dig a i.val : Int) + (dig b i.val : Int)) + ((runP a b false i.val).2 : Int)) = ((dig a i.val + dig b i.val + (runP a b false i.val).2 : Nat) : Int) := by
          rw [wrap_i64 ((dig a i.val : Int) + (dig b i.val : Int)) (by omega) (by omega), wrap_i64 _ (by omega) (by omega)]; omega
        rw [e1, show decide (((dig a i.val + dig b i.val + (runP a b false i.val).2 : Nat) : Int) < 0) = false from decide_eq_false (by omega)]
        conv => whnf
        refine br_intro (fun h => ?_) (fun h => ?_)
        · rw [h]
          have h10 := of_decide_eq_true h
          conv => whnf
          have hst : stp false (dig a i.val) (dig b i.val) (runP a b false i.val).2 = (dig a i.val + dig b i.val + (runP a b false i.val).2 - 10, 1) := by unfold stp; rw [if_neg (by decide), if_pos (by omega)]

          refine ⟨rfl, ?_, ?_, ?_⟩
          · rw [digR_len, runP_len]
            show (i.val + 1) * 8 ≤ _
            omega
          · rw [digR_len, runP_len]
            show i.val + 1 ≤ _
            omega
          conv => whnf
          refine Nx.intro ⟨i.val + 1, by omega⟩ (by simp only; omega) ?_
          refine Wk.intro [] rfl (fun p hp => by cases hp) ⟨.same rfl trivial, .same rfl trivial, .same rfl trivial, .same rfl trivial, .same ?_ (by exact rfl), .same ?_ trivial, .same ?_ trivial, trivial⟩
            ⟨⟨rfl, .inl ⟨?_, trivial⟩⟩, trivial⟩
          · show T.sl (some 0) 1 (digR (runP a b false i.val).1 ++ [[_]]) = T.sl (some 0) 1 (digR ((runP a b false i.val).1 ++ [(stp false (dig a i.val) (dig b i.val) (runP a b false i.val).2).1]))
            rw [hst, ← digR_append]
            exact congrArg (fun z => T.sl (some 0) 1 (digR (runP a b false i.val).1 ++ [[z]])) (i64_cong (by rw [wrap_i64 _ (by omega) (by omega)]; omega))
          · show _ = i64 (((stp false (dig a i.val) (dig b i.val) (runP a b false i.val).2).2 : Nat) : Int)
            rw [hst]; rfl
          · exact i64_cong (i64w (by simp only; omega) (by simp only; omega) (by simp only; omega))
          · show some (Blk.tok 1 ((digR (runP a b false i.val).1).length + 1)) = some (Blk.tok 1 (digR (runP a b false (i.val + 1)).1).length)
            rw [digR_len, digR_len, runP_len, runP_len]

        · rw [h]
          have h10 := of_decide_eq_false h
          conv => whnf
          have hst : stp false (dig a i.val) (dig b i.val) (runP a b false i.val).2 = (dig a i.val + dig b i.val + (runP a b false i.val).2, 0) := by unfold stp; rw [if_neg (by decide), if_neg (by omega)]

          refine ⟨rfl, ?_, ?_, ?_⟩
          · rw [digR_len, runP_len]
            show (i.val + 1) * 8 ≤ _
            omega
          · rw [digR_len, runP_len]
            show i.val + 1 ≤ _
            omega
          conv => whnf
          refine Nx.intro ⟨i.val + 1, by omega⟩ (by simp only; omega) ?_
          refine Wk.intro [] rfl (fun p hp => by cases hp) ⟨.same rfl trivial, .same rfl trivial, .same rfl trivial, .same rfl trivial, .same ?_ (by exact rfl), .same ?_ trivial, .same ?_ trivial, trivial⟩
            ⟨⟨rfl, .inl ⟨?_, trivial⟩⟩, trivial⟩
          · show T.sl (some 0) 1 (digR (runP a b false i.val).1 ++ [[_]]) = T.sl (some 0) 1 (digR ((runP a b false i.val).1 ++ [(stp false (dig a i.val) (dig b i.val) (runP a b false i.val).2).1]))
            rw [hst, ← digR_append]
            exact congrArg (fun z => T.sl (some 0) 1 (digR (runP a b false i.val).1 ++ [[z]])) (i64_cong rfl)
          · show _ = i64 (((stp false (dig a i.val) (dig b i.val) (runP a b false i.val).2).2 : Nat) : Int)
            rw [hst]; rfl
          · exact i64_cong (i64w (by simp only; omega) (by simp only; omega) (by simp only; omega))
          · show some (Blk.tok 1 ((digR (runP a b false i.val).1).length + 1)) = some (Blk.tok 1 (digR (runP a b false (i.val + 1)).1).length)
            rw [digR_len, digR_len, runP_len, runP_len]

      | true =>
        conv => whnf
        refine ⟨_, digit_law a i.val (by omega) (by omega), ?_⟩
        conv => whnf
        refine ⟨_, digit_law b i.val (by omega) (by omega), ?_⟩
        conv => whnf
        have e1 : IntKind.i64.wrap (IntKind.i64.wrap ((dig a i.val : Int) - (dig b i.val : Int)) - ((runP a b true i.val).2 : Int)) = (dig a i.val : Int) - dig b i.val - (runP a b true i.val).2 := by
          rw [wrap_i64 ((dig a i.val : Int) - (dig b i.val : Int)) (by omega) (by omega), wrap_i64 _ (by omega) (by omega)]
        rw [e1]
        refine br_intro (fun h => ?_) (fun h => ?_)
        · rw [h]
          have h0 := of_decide_eq_true h
          conv => whnf
          have e2 : IntKind.i64.wrap ((dig a i.val : Int) - dig b i.val - (runP a b true i.val).2 + 10) = ((dig a i.val + 10 - dig b i.val - (runP a b true i.val).2 : Nat) : Int) := by
            rw [wrap_i64 _ (by omega) (by omega)]; omega
          rw [e2, show decide (((dig a i.val + 10 - dig b i.val - (runP a b true i.val).2 : Nat) : Int) ≥ 10) = false from decide_eq_false (by omega)]
          conv => whnf
          have hst : stp true (dig a i.val) (dig b i.val) (runP a b true i.val).2 = (dig a i.val + 10 - dig b i.val - (runP a b true i.val).2, 1) := by unfold stp; rw [if_pos rfl, if_pos (by omega)]

          refine ⟨rfl, ?_, ?_, ?_⟩
          · rw [digR_len, runP_len]
            show (i.val + 1) * 8 ≤ _
            omega
          · rw [digR_len, runP_len]
            show i.val + 1 ≤ _
            omega
          conv => whnf
          refine Nx.intro ⟨i.val + 1, by omega⟩ (by simp only; omega) ?_
          refine Wk.intro [] rfl (fun p hp => by cases hp) ⟨.same rfl trivial, .same rfl trivial, .same rfl trivial, .same rfl trivial, .same ?_ (by exact rfl), .same ?_ trivial, .same ?_ trivial, trivial⟩
            ⟨⟨rfl, .inl ⟨?_, trivial⟩⟩, trivial⟩
          · show T.sl (some 0) 1 (digR (runP a b true i.val).1 ++ [[_]]) = T.sl (some 0) 1 (digR ((runP a b true i.val).1 ++ [(stp true (dig a i.val) (dig b i.val) (runP a b true i.val).2).1]))
            rw [hst, ← digR_append]
            exact congrArg (fun z => T.sl (some 0) 1 (digR (runP a b true i.val).1 ++ [[z]])) (i64_cong rfl)
          · show _ = i64 (((stp true (dig a i.val) (dig b i.val) (runP a b true i.val).2).2 : Nat) : Int)
            rw [hst]; rfl
          · exact i64_cong (i64w (by simp only; omega) (by simp only; omega) (by simp only; omega))
          · show some (Blk.tok 1 ((digR (runP a b true i.val).1).length + 1)) = some (Blk.tok 1 (digR (runP a b true (i.val + 1)).1).length)
            rw [digR_len, digR_len, runP_len, runP_len]

        · rw [h]
          have h0 := of_decide_eq_false h
          conv => whnf
          rw [show decide ((dig a i.val : Int) - dig b i.val - (runP a b true i.val).2 ≥ 10) = false from decide_eq_false (by omega)]
          conv => whnf
          have hst : stp true (dig a i.val) (dig b i.val) (runP a b true i.val).2 = (dig a i.val - dig b i.val - (runP a b true i.val).2, 0) := by unfold stp; rw [if_pos rfl, if_neg (by omega)]

          refine ⟨rfl, ?_, ?_, ?_⟩
          · rw [digR_len, runP_len]
            show (i.val + 1) * 8 ≤ _
            omega
          · rw [digR_len, runP_len]
            show i.val + 1 ≤ _
            omega
          conv => whnf
          refine Nx.intro ⟨i.val + 1, by omega⟩ (by simp only; omega) ?_
          refine Wk.intro [] rfl (fun p hp => by cases hp) ⟨.same rfl trivial, .same rfl trivial, .same rfl trivial, .same rfl trivial, .same ?_ (by exact rfl), .same ?_ trivial, .same ?_ trivial, trivial⟩
            ⟨⟨rfl, .inl ⟨?_, trivial⟩⟩, trivial⟩
          · show T.sl (some 0) 1 (digR (runP a b true i.val).1 ++ [[_]]) = T.sl (some 0) 1 (digR ((runP a b true i.val).1 ++ [(stp true (dig a i.val) (dig b i.val) (runP a b true i.val).2).1]))
            rw [hst, ← digR_append]
            exact congrArg (fun z => T.sl (some 0) 1 (digR (runP a b true i.val).1 ++ [[z]])) (i64_cong (by omega))
          · show _ = i64 (((stp true (dig a i.val) (dig b i.val) (runP a b true i.val).2).2 : Nat) : Int)
            rw [hst]; rfl
          · exact i64_cong (i64w (by simp only; omega) (by simp only; omega) (by simp only; omega))
          · show some (Blk.tok 1 ((digR (runP a b true i.val).1).length + 1)) = some (Blk.tok 1 (digR (runP a b true (i.val + 1)).1).length)
            rw [digR_len, digR_len, runP_len, runP_len]

    · rw [h]
      have hi : i.val = max a.length b.length + 1 := by have h' : ¬ ((i.val : Nat) : Int) ≤ ((max a.length b.length : Nat) : Int) := of_decide_eq_false h; omega
      conv => whnf
      refine loop_intro (fun q : {l : List Nat // Dg l ∧ valD l = fin a b m ∧ l.length ≤ 100000} => ⟨[(8, .sl none 1 (digR q.1))], [], 75, 0, []⟩) (fun q => q.1.length) ⟨(runP a b m i.val).1, (runP_ok ha hb m i.val).1, by rw [hi]; rfl, by rw [runP_len]; omega⟩ ?_ ?_
      · exact Wk.intro [] rfl (fun p hp => by cases hp) ⟨.inr (.inr (.inr (.inr ⟨_, _, _, rfl, rfl⟩))), trivial⟩ trivial
      rintro ⟨l, hl, hv, hll⟩
      dsimp only
      conv => whnf
      refine br_intro (fun h => ?_) (fun h => ?_)
      · rw [h]
        have h1 : 0 < l.length := by have := of_decide_eq_true h; rw [digR_len] at this; omega
        have hlast : l[l.length - 1]? = some l[l.length - 1] := List.getElem?_eq_getElem (by omega)
        conv => whnf
        have e3 : IntKind.i64.wrap (((digR l).length : Int) - 1) = ((l.length - 1 : Nat) : Int) := by rw [digR_len, wrap_i64 _ (by omega) (by omega)]; omega
        rw [e3]
        refine ⟨by omega, nthK_intro (digR_get (by rw [Int.toNat_natCast]; exact hlast)) ?_⟩
        conv => whnf
        by_cases hz : l[l.length - 1] = 0
        · rw [hz]
          conv => whnf
          rw [e3]
          refine ⟨by omega, ?_⟩
          conv => whnf
          refine ⟨⟨by omega, by rw [digR_len]; omega⟩, ?_⟩
          conv => whnf
          have hcut : l = l.take (l.length - 1) ++ [0] := by
            conv => lhs; rw [← List.take_append_drop (l.length - 1) l]
            congr 1
            rw [List.drop_eq_getElem_cons (by omega), hz, List.drop_of_length_le (by omega)]
          refine Nx.intro ⟨l.take (l.length - 1), fun d hd => hl d (List.mem_of_mem_take hd), ?_, by rw [List.length_take]; omega⟩ (by simp only [List.length_take]; omega) ?_
          · rw [← hv]
            conv => rhs; rw [hcut]
            rw [valD_append]; omega
          · refine Wk.intro [] rfl (fun p hp => by cases hp) ⟨.same ?_ trivial, trivial⟩ trivial
            rw [List.drop_zero]
            exact congrArg (T.sl none 1) (digR_take l (l.length - 1))
        · rw [show (((l[l.length - 1] : Nat) : Int) == 0) = false by rw [beq_eq_false_iff_ne]; omega]
          conv => whnf
          refine .inl (congrArg (fun z => T.sl none 1 (digR z)) ?_)
          rw [← hv, digs_of hl fun d hd => ?_]
          rw [List.getLast?_eq_getElem?, hlast] at hd
          cases hd; exact hz
      · rw [h]
        have h1 : l = [] := by have := of_decide_eq_false h; rw [digR_len] at this; exact List.length_eq_zero_iff.1 (by omega)
        conv => whnf
        refine .inl (congrArg (fun z => T.sl none 1 (digR z)) ?_)
        rw [← hv, h1]; rfl
end Go.AW.Vec
