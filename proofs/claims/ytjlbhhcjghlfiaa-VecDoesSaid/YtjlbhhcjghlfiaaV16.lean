/- Numbers of many digits: with signs. -/
import Derived.Test.YtjlbhhcjghlfiaaV15
set_option linter.unusedVariables false
set_option linter.unusedSimpArgs false
namespace Go.AW.Vec
open Go Go.AW Go.Proofs
set_option maxRecDepth 10000
set_option pp.maxSteps 600
theorem digs_short {n : Nat} (h : n < 10 ^ 200) : (digs n).length ≤ 1000 := Nat.le_trans (digs_len 200 n h) (by decide)
theorem fin_add (n k : Nat) : fin (digs n) (digs k) false = n + k := by
  unfold fin
  rw [plus_end (digs_lt n) (digs_lt k), valD_digs, valD_digs]
theorem fin_sub {n k : Nat} (h : k ≤ n) : fin (digs n) (digs k) true = n - k := by
  unfold fin
  rw [minus_end (digs_lt n) (digs_lt k) (by rw [valD_digs, valD_digs]; exact h), valD_digs, valD_digs]
theorem plus_n (n k : Nat) (hn : n < 10 ^ 200) (hk : k < 10 ^ 200) : FCv Try.prog 30 [digT (digs n), digT (digs k), tb false] (digT (digs (n + k))) := by
  have := plusD_law (digs n) (digs k) false (digs_lt n) (digs_lt k) (digs_short hn) (digs_short hk)
  rwa [fin_add] at this
theorem minus_n (n k : Nat) (h : k ≤ n) (hn : n < 10 ^ 200) : FCv Try.prog 30 [digT (digs n), digT (digs k), tb true] (digT (digs (n - k))) := by
  have := plusD_law (digs n) (digs k) true (digs_lt n) (digs_lt k) (digs_short hn) (digs_short (Nat.lt_of_le_of_lt h hn))
  rwa [fin_sub h] at this
theorem less_n (n k : Nat) (hn : n < 10 ^ 200) (hk : k < 10 ^ 200) : FCv Try.prog 29 [digT (digs n), digT (digs k)] (tb (decide (n < k))) := by
  have := less_law (digs n) (digs k) (digs_short hn) (digs_short hk)
  rwa [lessD_val (digs_lt n) (digs_lt k), valD_digs, valD_digs] at this

theorem turned_law (s : Bool) (n : Nat) : FCv Try.prog 27 [bigT s n] (bigT (!s) n) := by
  refine FCv_of_awp (fn := Try.f27) (c := bodyC Try.f27) Try.func27 rfl (of_decide_eq_true rfl) [] ?_
  conv => whnf
  exact .inl rfl

def addS (s : Bool) (n : Nat) (t : Bool) (k : Nat) : Bool × Nat := if (s == t) = true then (s, n + k) else if n < k then (t, k - n) else (s, n - k)
def sv (p : Bool × Nat) : Int := if p.1 = true then -(p.2 : Int) else p.2
theorem sv_add (s : Bool) (n : Nat) (t : Bool) (k : Nat) : sv (addS s n t k) = sv (s, n) + sv (t, k) := by
  unfold addS sv
  cases s <;> cases t <;> simp <;> (try split) <;> (try simp) <;> omega
theorem big_add (s : Bool) (n : Nat) (t : Bool) (k : Nat) (hn : n < 10 ^ 200) (hk : k < 10 ^ 200) : FCv Try.prog 25 [bigT s n, bigT t k] (bigT (addS s n t k).1 (addS s n t k).2) := by
  refine FCv_of_awp (fn := Try.f25) (c := bodyC Try.f25) Try.func25 rfl (of_decide_eq_true rfl) [] ?_
  conv => whnf
  unfold addS
  cases hst : (s == t) with
  | true =>
    rw [if_pos rfl]
    conv => whnf
    refine ⟨_, plus_n n k hn hk, ?_⟩
    conv => whnf
    exact .inl rfl
  | false =>
    rw [if_neg (by decide)]
    conv => whnf
    refine ⟨_, less_n n k hn hk, ?_⟩
    conv => whnf
    by_cases hlt : n < k
    · rw [decide_eq_true hlt, if_pos hlt]
      conv => whnf
      refine ⟨_, minus_n k n (by omega) hk, ?_⟩
      conv => whnf
      exact .inl rfl
    · rw [decide_eq_false hlt, if_neg hlt]
      conv => whnf
      refine ⟨_, minus_n n k (by omega) hn, ?_⟩
      conv => whnf
      exact .inl rfl

theorem valD_drop {l : List Nat} {k d : Nat} (h : l[k]? = some d) : valD (l.drop k) = d + 10 * valD (l.drop (k + 1)) := by
  have hk : k < l.length := (List.getElem?_eq_some_iff.1 h).1
  rw [List.drop_eq_getElem_cons hk, valD]
  rw [List.getElem?_eq_getElem hk] at h
  cases h; rfl
theorem valD_drop_le (l : List Nat) (k : Nat) : valD (l.drop k) ≤ valD l := by
  induction k with
  | zero => rw [List.drop_zero]; exact Nat.le_refl _
  | succ k ih =>
    rcases Nat.lt_or_ge k l.length with h | h
    · have := valD_drop (List.getElem?_eq_getElem h)
      omega
    · rw [List.drop_of_length_le (by omega)]; exact Nat.zero_le _
theorem bigM_lt (x : Nat) (s : Bool) (l : List Nat) : blkLt x (.own 2 [[tb s, digT l]]) := by
  intro row hr c hc
  obtain rfl := List.mem_singleton.1 hr
  simp only [List.mem_cons, List.not_mem_nil, or_false] at hc
  rcases hc with rfl | rfl <;> trivial

theorem number_law (s : Bool) (n : Nat) (hn : n < 10 ^ 200) : FCv Try.prog 24 [bigT s n] (.tup [i64 (num (sv (s, n))), tb (okB (sv (s, n)))]) := by
  have h63 : (9223372036854775808 : Nat) < 10 ^ 200 := by
    refine Nat.lt_of_lt_of_le (show (9223372036854775808 : Nat) < 10 ^ 20 by decide) (Nat.pow_le_pow_right (by decide) (by decide))
  have top := of_law (-9223372036854775808) ⟨by decide, by decide⟩
  rw [show (-9223372036854775808 : Int).natAbs = 9223372036854775808 from rfl] at top
  have l1 := less_n 9223372036854775808 n h63 hn
  have l2 := less_n n 9223372036854775808 hn h63
  obtain ⟨big, hbig⟩ : ∃ b, b = digs 9223372036854775808 := ⟨_, rfl⟩
  refine FCv_of_awp (fn := Try.f24) (c := bodyC Try.f24) Try.func24 rfl (of_decide_eq_true rfl) [] ?_
  conv => whnf
  unfold bigT at top
  rw [← hbig] at top l1 l2
  refine ⟨_, top, ?_⟩
  conv => whnf
  refine ⟨_, l1, ?_⟩
  conv => whnf
  rcases Nat.lt_trichotomy 9223372036854775808 n with hc | hc | hc
  · rw [decide_eq_true hc]
    conv => whnf
    have hb : okB (sv (s, n)) = false := okB_no.2 (fun hk => by obtain ⟨k1, k2⟩ := hk; simp only [sv] at k1 k2; cases s <;> simp at k1 k2 <;> omega)
    rw [num, hb]
    exact ⟨Or.inl rfl, Or.inl rfl, trivial⟩
  · rw [decide_eq_false (show ¬ 9223372036854775808 < n by omega)]
    rw [decide_eq_false (show ¬ n < 9223372036854775808 by omega)] at l2
    conv => whnf
    refine ⟨_, l2, ?_⟩
    conv => whnf
    cases s with
    | false =>
      conv => whnf
      have hb : okB (sv (false, n)) = false := okB_no.2 (fun hk => by obtain ⟨k1, k2⟩ := hk; simp only [sv, Bool.false_eq_true, if_false] at k1 k2; omega)
      rw [num, hb]
      exact ⟨Or.inl rfl, Or.inl rfl, trivial⟩
    | true =>
      conv => whnf
      refine loop_intro (fun k : Fin ((digs n).length + 1) => ⟨[(1, .ptr 0 0 0), (5, .lit (.int .u64 ((valD ((digs n).drop k.val) : Nat) : Int))), (6, i64 ((k.val : Int) - 1))], [(0, .own 2 [[tb true, digT (digs n)]])], 48, 1, []⟩) (fun k => k.val) ⟨(digs n).length, by omega⟩ ?_ ?_
      · refine Wk.intro [] rfl (fun p hp => by cases hp) ⟨.same rfl (by exact rfl), .same ?_ trivial, .same ?_ trivial, trivial⟩
          ⟨⟨rfl, .inl ⟨rfl, bigM_lt _ _ _⟩⟩, trivial⟩
        · refine congrArg (fun z : Nat => T.lit (.int .u64 (z : Int))) ?_
          show 0 = valD ((digs n).drop (digs n).length)
          rw [List.drop_length]; rfl
        · have := digs_short hn
          exact i64_cong (i64w (by rw [digR_len]) (by simp only; omega) (by simp only; omega))
      intro k
      conv => whnf
      have hlen := digs_short hn
      have hle : valD ((digs n).drop k.val) ≤ n := by have := valD_drop_le (digs n) k.val; rwa [valD_digs] at this
      refine br_intro (fun h => ?_) (fun h => ?_)
      · rw [h]
        have hk1 : 1 ≤ k.val := by have := of_decide_eq_true h; omega
        have hd : (digs n)[k.val - 1]? = some (digs n)[k.val - 1] := List.getElem?_eq_getElem (by omega)
        have hv := valD_drop hd
        rw [show k.val - 1 + 1 = k.val by omega] at hv
        have hle2 : valD ((digs n).drop (k.val - 1)) ≤ n := by have := valD_drop_le (digs n) (k.val - 1); rwa [valD_digs] at this
        conv => whnf
        rw [show ((k.val : Int) - 1).toNat = k.val - 1 by omega]
        refine ⟨by omega, nthK_intro (digR_get hd) ?_⟩
        conv => whnf
        refine Nx.intro ⟨k.val - 1, by omega⟩ (by simp only; omega) ?_
        refine Wk.intro [] rfl (fun p hp => by cases hp) ⟨.same rfl (by exact rfl), .same ?_ trivial, .same ?_ trivial, trivial⟩
          ⟨⟨rfl, .inl ⟨rfl, bigM_lt _ _ _⟩⟩, trivial⟩
        · refine congrArg (fun z : Int => T.lit (.int .u64 z)) ?_
          simp only [wrap_u64]
          rw [hv]
          omega
        · exact i64_cong (i64w (by simp only; omega) (by simp only; omega) (by simp only; omega))
      · rw [h]
        have hk0 : k.val = 0 := by have := of_decide_eq_false h; omega
        have hm : valD ((digs n).drop k.val) = n := by rw [hk0, List.drop_zero, valD_digs]
        rw [hm]
        conv => whnf
        have hb : okB (sv (true, n)) = true := okB_iff.2 ⟨by simp only [sv, if_true]; omega, by simp only [sv, if_true]; omega⟩
        refine ⟨Or.inl ?_, Or.inl ?_, trivial⟩
        · refine i64_cong ?_
          rw [num, hb, if_pos rfl]
          simp only [sv, if_true, wrap_u64]
          have e1 : (2 : Int) ^ IntKind.i64.bits = 18446744073709551616 := by decide
          have e2 : (2 : Int) ^ (IntKind.i64.bits - 1) = 9223372036854775808 := by decide
          simp only [IntKind.wrap, e1, e2, show IntKind.i64.signed = true from rfl, Bool.true_and, decide_eq_true_eq]
          split <;> omega
        · rw [hb]; rfl
  · rw [decide_eq_false (show ¬ 9223372036854775808 < n by omega)]
    rw [decide_eq_true (show n < 9223372036854775808 by omega)] at l2
    conv => whnf
    refine ⟨_, l2, ?_⟩
    conv => whnf
    cases s with
    | false =>
      refine loop_intro (fun k : Fin ((digs n).length + 1) => ⟨[(1, .ptr 0 0 0), (5, .lit (.int .u64 ((valD ((digs n).drop k.val) : Nat) : Int))), (6, i64 ((k.val : Int) - 1))], [(0, .own 2 [[tb false, digT (digs n)]])], 48, 1, []⟩) (fun k => k.val) ⟨(digs n).length, by omega⟩ ?_ ?_
      · refine Wk.intro [] rfl (fun p hp => by cases hp) ⟨.same rfl (by exact rfl), .same ?_ trivial, .same ?_ trivial, trivial⟩
          ⟨⟨rfl, .inl ⟨rfl, bigM_lt _ _ _⟩⟩, trivial⟩
        · refine congrArg (fun z : Nat => T.lit (.int .u64 (z : Int))) ?_
          show 0 = valD ((digs n).drop (digs n).length)
          rw [List.drop_length]; rfl
        · have := digs_short hn
          exact i64_cong (i64w (by rw [digR_len]) (by simp only; omega) (by simp only; omega))
      intro k
      conv => whnf
      have hlen := digs_short hn
      have hle : valD ((digs n).drop k.val) ≤ n := by have := valD_drop_le (digs n) k.val; rwa [valD_digs] at this
      refine br_intro (fun h => ?_) (fun h => ?_)
      · rw [h]
        have hk1 : 1 ≤ k.val := by have := of_decide_eq_true h; omega
        have hd : (digs n)[k.val - 1]? = some (digs n)[k.val - 1] := List.getElem?_eq_getElem (by omega)
        have hv := valD_drop hd
        rw [show k.val - 1 + 1 = k.val by omega] at hv
        have hle2 : valD ((digs n).drop (k.val - 1)) ≤ n := by have := valD_drop_le (digs n) (k.val - 1); rwa [valD_digs] at this
        conv => whnf
        rw [show ((k.val : Int) - 1).toNat = k.val - 1 by omega]
        refine ⟨by omega, nthK_intro (digR_get hd) ?_⟩
        conv => whnf
        refine Nx.intro ⟨k.val - 1, by omega⟩ (by simp only; omega) ?_
        refine Wk.intro [] rfl (fun p hp => by cases hp) ⟨.same rfl (by exact rfl), .same ?_ trivial, .same ?_ trivial, trivial⟩
          ⟨⟨rfl, .inl ⟨rfl, bigM_lt _ _ _⟩⟩, trivial⟩
        · refine congrArg (fun z : Int => T.lit (.int .u64 z)) ?_
          simp only [wrap_u64]
          rw [hv]
          omega
        · exact i64_cong (i64w (by simp only; omega) (by simp only; omega) (by simp only; omega))
      · rw [h]
        have hk0 : k.val = 0 := by have := of_decide_eq_false h; omega
        have hm : valD ((digs n).drop k.val) = n := by rw [hk0, List.drop_zero, valD_digs]
        rw [hm]
        conv => whnf
        have hb : okB (sv (false, n)) = true := okB_iff.2 ⟨by simp only [sv, Bool.false_eq_true, if_false]; omega, by simp only [sv, Bool.false_eq_true, if_false]; omega⟩
        refine ⟨Or.inl ?_, Or.inl ?_, trivial⟩
        · refine i64_cong ?_
          rw [num, hb, if_pos rfl]
          simp only [sv, Bool.false_eq_true, if_false]
          exact wrap_i64 _ (by omega) (by omega)
        · rw [hb]; rfl
    | true =>
      refine loop_intro (fun k : Fin ((digs n).length + 1) => ⟨[(1, .ptr 0 0 0), (5, .lit (.int .u64 ((valD ((digs n).drop k.val) : Nat) : Int))), (6, i64 ((k.val : Int) - 1))], [(0, .own 2 [[tb true, digT (digs n)]])], 48, 1, []⟩) (fun k => k.val) ⟨(digs n).length, by omega⟩ ?_ ?_
      · refine Wk.intro [] rfl (fun p hp => by cases hp) ⟨.same rfl (by exact rfl), .same ?_ trivial, .same ?_ trivial, trivial⟩
          ⟨⟨rfl, .inl ⟨rfl, bigM_lt _ _ _⟩⟩, trivial⟩
        · refine congrArg (fun z : Nat => T.lit (.int .u64 (z : Int))) ?_
          show 0 = valD ((digs n).drop (digs n).length)
          rw [List.drop_length]; rfl
        · have := digs_short hn
          exact i64_cong (i64w (by rw [digR_len]) (by simp only; omega) (by simp only; omega))
      intro k
      conv => whnf
      have hlen := digs_short hn
      have hle : valD ((digs n).drop k.val) ≤ n := by have := valD_drop_le (digs n) k.val; rwa [valD_digs] at this
      refine br_intro (fun h => ?_) (fun h => ?_)
      · rw [h]
        have hk1 : 1 ≤ k.val := by have := of_decide_eq_true h; omega
        have hd : (digs n)[k.val - 1]? = some (digs n)[k.val - 1] := List.getElem?_eq_getElem (by omega)
        have hv := valD_drop hd
        rw [show k.val - 1 + 1 = k.val by omega] at hv
        have hle2 : valD ((digs n).drop (k.val - 1)) ≤ n := by have := valD_drop_le (digs n) (k.val - 1); rwa [valD_digs] at this
        conv => whnf
        rw [show ((k.val : Int) - 1).toNat = k.val - 1 by omega]
        refine ⟨by omega, nthK_intro (digR_get hd) ?_⟩
        conv => whnf
        refine Nx.intro ⟨k.val - 1, by omega⟩ (by simp only; omega) ?_
        refine Wk.intro [] rfl (fun p hp => by cases hp) ⟨.same rfl (by exact rfl), .same ?_ trivial, .same ?_ trivial, trivial⟩
          ⟨⟨rfl, .inl ⟨rfl, bigM_lt _ _ _⟩⟩, trivial⟩
        · refine congrArg (fun z : Int => T.lit (.int .u64 z)) ?_
          simp only [wrap_u64]
          rw [hv]
          omega
        · exact i64_cong (i64w (by simp only; omega) (by simp only; omega) (by simp only; omega))
      · rw [h]
        have hk0 : k.val = 0 := by have := of_decide_eq_false h; omega
        have hm : valD ((digs n).drop k.val) = n := by rw [hk0, List.drop_zero, valD_digs]
        rw [hm]
        conv => whnf
        have hb : okB (sv (true, n)) = true := okB_iff.2 ⟨by simp only [sv, if_true]; omega, by simp only [sv, if_true]; omega⟩
        refine ⟨Or.inl ?_, Or.inl ?_, trivial⟩
        · refine i64_cong ?_
          rw [num, hb, if_pos rfl]
          simp only [sv, if_true, wrap_u64]
          have e1 : (2 : Int) ^ IntKind.i64.bits = 18446744073709551616 := by decide
          have e2 : (2 : Int) ^ (IntKind.i64.bits - 1) = 9223372036854775808 := by decide
          simp only [IntKind.wrap, e1, e2, show IntKind.i64.signed = true from rfl, Bool.true_and, decide_eq_true_eq]
          split <;> omega
        · rw [hb]; rfl
end Go.AW.Vec
