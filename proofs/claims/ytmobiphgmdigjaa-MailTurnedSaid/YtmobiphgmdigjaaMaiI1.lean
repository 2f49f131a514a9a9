import Derived.Test.YtmobiphgmdigjaaWirP1
import Derived.Test.YtmobiphgmdigjaaProg
/- The wire: its reader, walked. -/
set_option linter.unusedVariables false
set_option linter.unusedSimpArgs false
namespace Go.AW.Wir
open Go Go.AW Go.Proofs
set_option maxRecDepth 10000
set_option pp.maxSteps 60

/-- Why something stops. -/
def flt (e : Int) : Value := .iface 73 (.agg #[.int .i64 e])
/-- A reader's memory. -/
def rdM (b : List UInt8) (left : Int) : Mem := [(0, .own 2 [[.sl none 1 (bytesR b), i64 left]])]

theorem rd_dom (σ : List (Nat × Nat)) (b : List UInt8) (left : Int) : domB σ (.own 2 [[.sl none 1 (bytesR b), i64 left]]) := by
  intro row hr c hc
  obtain rfl := List.mem_singleton.1 hr
  simp only [List.mem_cons, List.mem_nil_iff, or_false] at hc
  rcases hc with rfl | rfl <;> rfl
theorem rd_in {m : Mem} {b : List UInt8} {left : Int} (h : m.get 0 = some (.own 2 [[.sl none 1 (bytesR b), i64 left]])) : memIn (asIn [0] 0) m (rdM b left) :=
  ⟨⟨rfl, h, rd_dom _ b left⟩, trivial⟩
theorem rd_out (id : Nat) (b : List UInt8) (left : Int) : memOut (asIn ([0] ++ [id]) 0) (rdM b left) (rdM b left) :=
  ⟨⟨rfl, rfl, rfl, rd_dom _ b left⟩, trivial⟩
theorem rd_keep (b : List UInt8) (left : Int) {m : Mem} (h : m.get 0 = some (.own 2 [[.sl none 1 (bytesR b), i64 left]])) : memKeep [(0, 0)] m (rdM b left) :=
  ⟨⟨0, _, rfl, rfl, h, rfl, rd_dom _ b left⟩, trivial⟩

theorem rd_lt (x : Nat) (b : List UInt8) (left : Int) : blkLt x (.own 2 [[.sl none 1 (bytesR b), i64 left]]) := by
  intro row hr c hc
  obtain rfl := List.mem_singleton.1 hr
  simp only [List.mem_cons, List.mem_nil_iff, or_false] at hc
  rcases hc with rfl | rfl <;> trivial
theorem take_ok (b : List UInt8) (left : Int) (n : Nat) (hn : n ≤ b.length) :
    FCm Try.prog 66 [.ptr 0 0 0, i64 n] (rdM b left) 1 (.sl none 1 (bytesR (b.take n))) (rdM (b.drop n) left) := by
  refine FCm_of_awp (fn := Try.f66) (c := bodyC Try.f66) Try.func66 rfl (of_decide_eq_true rfl) [2000001] rfl ?_
  conv => whnf
  rw [show decide ((n : Int) > ((bytesR b).length : Int)) = false from decide_eq_false (by rw [bytesR_len]; omega)]
  conv => whnf
  refine ⟨by omega, ?_⟩
  conv => whnf
  rw [Int.toNat_natCast]
  refine ⟨⟨Nat.zero_le _, by rw [bytesR_len]; exact hn⟩, ?_⟩
  conv => whnf
  refine ⟨by omega, ?_⟩
  conv => whnf
  rw [Int.toNat_natCast]
  refine ⟨⟨by rw [bytesR_len]; exact hn, Nat.le_refl _⟩, ?_⟩
  conv => whnf
  refine ⟨[(0, 0)], ⟨rfl, rfl, rfl⟩, .inl ?_, rd_keep _ _ ?_⟩
  · rw [List.drop_zero, Nat.sub_zero, bytesR_take]
  · show some (Blk.own 2 [[T.sl none 1 (List.take ((bytesR b).length - n) (List.drop n (bytesR b))), i64 left]]) = _
    rw [List.take_of_length_le (by rw [List.length_drop]; exact Nat.le_refl _), bytesR_drop]
theorem take_no (b : List UInt8) (left : Int) (n : Nat) (hn : b.length < n) :
    FCx Try.prog 66 [.ptr 0 0 0, i64 n] (rdM b left) 1 (flt 4) := by
  refine FCx_of_awp (fn := Try.f66) (c := bodyC Try.f66) Try.func66 rfl (of_decide_eq_true rfl) [2000001] rfl ?_
  conv => whnf
  rw [show decide ((n : Int) > ((bytesR b).length : Int)) = true from decide_eq_true (by rw [bytesR_len]; omega)]
  conv => whnf
  all_goals rfl

theorem shl8 (n : Nat) (c : UInt8) (h : n * 256 < 18446744073709551616) : bitsI .or .u64 (IntKind.u64.wrap ((n : Int) * 2 ^ min (Int.toNat 8) IntKind.u64.bits)) (IntKind.u64.wrap (c.toNat : Int)) = ((n * 256 + c.toNat : Nat) : Int) := by
  have hc := c.toNat_lt
  have e1 : IntKind.u64.wrap ((n : Int) * 2 ^ min (Int.toNat 8) IntKind.u64.bits) = ((n * 256 : Nat) : Int) := by
    have : (n : Int) * 2 ^ min (Int.toNat 8) IntKind.u64.bits = ((n * 256 : Nat) : Int) := by
      have h8 : (2 : Int) ^ min (Int.toNat 8) IntKind.u64.bits = 256 := by decide
      rw [h8]; omega
    rw [this, wrap_mod .u64 rfl, Nat.mod_eq_of_lt (by show _ < 18446744073709551616; omega)]
  have e2 : IntKind.u64.wrap (c.toNat : Int) = ((c.toNat : Nat) : Int) := by
    rw [wrap_mod .u64 rfl, Nat.mod_eq_of_lt (by show _ < 18446744073709551616; omega)]
  rw [e1, e2]
  have e3 : bitsI .or .u64 ((BitVec.ofNat 64 (n * 256)).toNat : Int) ((BitVec.ofNat 64 c.toNat).toNat : Int) = ((BitVec.ofNat 64 (n * 256) ||| BitVec.ofNat 64 c.toNat : BitVec 64).toNat : Int) := or_u .u64 rfl (BitVec.ofNat 64 (n * 256)) (BitVec.ofNat 64 c.toNat)
  rw [BitVec.toNat_or, BitVec.toNat_ofNat, BitVec.toNat_ofNat, Nat.mod_eq_of_lt (by omega), Nat.mod_eq_of_lt (by omega)] at e3
  have e4 : n * 256 ||| c.toNat = n * 256 + c.toNat := by
    have := Nat.two_pow_add_eq_or_of_lt (i := 8) (b := c.toNat) hc n
    rw [show (2 : Nat) ^ 8 * n = n * 256 by omega] at this
    exact this.symm
  rw [e4] at e3
  exact e3

theorem cnt_lt {b r : List UInt8} {n : Nat} (h : cnt b = some (n, r)) : n < 18446744073709551616 ∧ r.length < b.length := by
  unfold cnt at h
  split at h
  · cases h
  · rename_i k t
    split at h
    · cases h
    · rename_i h1
      split at h
      · cases h
      · cases h
        have h2 := numB_lt (t.take k.toNat)
        rw [List.length_take, Nat.min_eq_left (by omega)] at h2
        have h3 : (256 : Nat) ^ k.toNat ≤ 256 ^ 8 := Nat.pow_le_pow_right (by decide) (by omega)
        exact ⟨Nat.lt_of_lt_of_le h2 h3, by rw [List.length_drop, List.length_cons]; omega⟩
theorem count_ok (b r : List UInt8) (left : Int) (n : Nat) (h : cnt b = some (n, r)) :
    FCm Try.prog 67 [.ptr 0 0 0] (rdM b left) 1 (u64 n) (rdM r left) := by
  unfold cnt at h
  cases b with
  | nil => cases h
  | cons k t =>
    dsimp only at h
    split at h
    · cases h
    rename_i h1
    split at h
    · cases h
    rename_i h2
    cases h
    have hk8 : k.toNat ≤ 8 ∧ k.toNat ≤ t.length := by omega
    have t1 := take_ok (k :: t) left 1 (by simp)
    have t2 := take_ok t left k.toNat hk8.2
    generalize hL : t.take k.toNat = L at t2 h2 ⊢
    have hLl : L.length = k.toNat := by rw [← hL, List.length_take]; omega
    have hmax := numB_lt L
    refine FCm_of_awp (fn := Try.f67) (c := bodyC Try.f67) Try.func67 rfl (of_decide_eq_true rfl) [2000001, 1000000 + 66, 3000000 + 66] rfl ?_
    conv => whnf
    refine .inl ⟨[0], _, _, _, _, rdM t left, _, t1, ⟨rfl, ⟨rfl, trivial⟩, rfl, rfl, rd_in rfl, rfl, rfl, rd_out _ _ _⟩, ?_⟩
    conv => whnf
    refine ⟨by decide, nthK_intro (bytes_get (l := [k]) (i := 0) rfl) ?_⟩
    conv => whnf
    have hk : IntKind.i64.wrap (k.toNat : Int) = (k.toNat : Int) := wrap_i64 _ (by omega) (by omega)
    rw [hk]
    rw [show decide ((k.toNat : Int) > 8) = false from decide_eq_false (by omega)]
    conv => whnf
    refine .inl ⟨[0], _, _, _, _, rdM (t.drop k.toNat) left, _, t2, ⟨rfl, ⟨rfl, trivial⟩, rfl, rfl, rd_in rfl, rfl, rfl, rd_out _ _ _⟩, ?_⟩
    conv => whnf
    have hhead : 0 < k.toNat → ∃ c, L[0]? = some c ∧ c ≠ 0 := by
      intro hk0
      have h0 : 0 < L.length := by omega
      refine ⟨L[0], List.getElem?_eq_getElem h0, fun e => h2 ⟨hk0, ?_⟩⟩
      have h3 : L[0]? = t[0]? := by rw [← hL, List.getElem?_take, if_pos hk0]
      rw [List.head?_eq_getElem?, ← h3, List.getElem?_eq_getElem h0, e]
    refine br_intro (fun h => ?_) (fun h => ?_) <;> (rw [h]; conv => whnf)
    · obtain ⟨c, hc, hc0⟩ := hhead (by have := of_decide_eq_true h; omega)
      refine ⟨by decide, nthK_intro (bytes_get hc) ?_⟩
      conv => whnf
      rw [show ((c.toNat : Int) == 0) = false from beq_eq_false_iff_ne.2 (fun e => hc0 (UInt8.toNat_inj.1 (by have hz : c.toNat = 0 := (by omega); exact hz)))]
      conv => whnf
      refine loop_intro (fun i : Fin (L.length + 1) => ⟨[(0, .ptr 0 0 0), (5, u64 (numB (L.take i.1))), (30, .sl none 1 (bytesR L)), (31, i64 (L.length : Nat)), (32, i64 (i.1 : Nat))], rdM (t.drop k.toNat) left, 43, 3, [2000001, 1000000 + 66, 3000000 + 66]⟩) (fun i => L.length - i.1) 0 ?_ ?_
      · exact Wk.intro [] rfl (fun p hp => by cases hp) ⟨.same rfl (by exact rfl), .same rfl trivial, .same rfl trivial, .same (congrArg i64 (by rw [bytesR_len])) trivial, .same rfl trivial, trivial⟩ ⟨⟨rfl, .inl ⟨rfl, rd_lt _ _ _⟩⟩, trivial⟩
      rintro ⟨i, hi⟩
      dsimp only
      conv => whnf
      refine br_intro (fun h => ?_) (fun h => ?_) <;> (rw [h]; conv => whnf)
      · have hi2 : i < L.length := by have := of_decide_eq_true h; omega
        refine ⟨by omega, nthK_intro (bytes_get (List.getElem?_eq_getElem hi2)) ?_⟩
        conv => whnf
        refine ⟨by decide, ?_⟩
        conv => whnf
        refine Nx.intro ⟨i + 1, by omega⟩ (by dsimp only; omega) ?_
        refine Wk.intro [] rfl (fun p hp => by cases hp) ⟨.same rfl (by exact rfl), .same (congrArg (fun z => T.lit (.int .u64 z)) ?_) trivial, .same rfl trivial, .same rfl trivial, .same (congrArg i64 ?_) trivial, trivial⟩ ⟨⟨rfl, .inl ⟨rfl, rd_lt _ _ _⟩⟩, trivial⟩
        · have h5 := numB_lt (L.take i)
          rw [List.length_take, Nat.min_eq_left (by omega)] at h5
          have h6 : (256 : Nat) ^ i ≤ 256 ^ 7 := Nat.pow_le_pow_right (by decide) (by omega)
          refine (shl8 _ _ (by omega)).trans ?_
          rw [List.take_add_one, List.getElem?_eq_getElem hi2]
          exact congrArg Nat.cast (numB_snoc _ _).symm
        · rw [wrap_i64 _ (by omega) (by omega)]; rfl
      · have hi2 : i = L.length := by have := of_decide_eq_false h; omega
        refine ⟨[(0, 0)], ⟨rfl, rfl, rfl⟩, .inl ?_, rd_keep _ _ rfl⟩
        rw [hi2, List.take_length]
    · refine loop_intro (fun i : Fin (L.length + 1) => ⟨[(0, .ptr 0 0 0), (5, u64 (numB (L.take i.1))), (30, .sl none 1 (bytesR L)), (31, i64 (L.length : Nat)), (32, i64 (i.1 : Nat))], rdM (t.drop k.toNat) left, 43, 3, [2000001, 1000000 + 66, 3000000 + 66]⟩) (fun i => L.length - i.1) 0 ?_ ?_
      · exact Wk.intro [] rfl (fun p hp => by cases hp) ⟨.same rfl (by exact rfl), .same rfl trivial, .same rfl trivial, .same (congrArg i64 (by rw [bytesR_len])) trivial, .same rfl trivial, trivial⟩ ⟨⟨rfl, .inl ⟨rfl, rd_lt _ _ _⟩⟩, trivial⟩
      rintro ⟨i, hi⟩
      dsimp only
      conv => whnf
      refine br_intro (fun h => ?_) (fun h => ?_) <;> (rw [h]; conv => whnf)
      · have hi2 : i < L.length := by have := of_decide_eq_true h; omega
        refine ⟨by omega, nthK_intro (bytes_get (List.getElem?_eq_getElem hi2)) ?_⟩
        conv => whnf
        refine ⟨by decide, ?_⟩
        conv => whnf
        refine Nx.intro ⟨i + 1, by omega⟩ (by dsimp only; omega) ?_
        refine Wk.intro [] rfl (fun p hp => by cases hp) ⟨.same rfl (by exact rfl), .same (congrArg (fun z => T.lit (.int .u64 z)) ?_) trivial, .same rfl trivial, .same rfl trivial, .same (congrArg i64 ?_) trivial, trivial⟩ ⟨⟨rfl, .inl ⟨rfl, rd_lt _ _ _⟩⟩, trivial⟩
        · have h5 := numB_lt (L.take i)
          rw [List.length_take, Nat.min_eq_left (by omega)] at h5
          have h6 : (256 : Nat) ^ i ≤ 256 ^ 7 := Nat.pow_le_pow_right (by decide) (by omega)
          refine (shl8 _ _ (by omega)).trans ?_
          rw [List.take_add_one, List.getElem?_eq_getElem hi2]
          exact congrArg Nat.cast (numB_snoc _ _).symm
        · rw [wrap_i64 _ (by omega) (by omega)]; rfl
      · have hi2 : i = L.length := by have := of_decide_eq_false h; omega
        refine ⟨[(0, 0)], ⟨rfl, rfl, rfl⟩, .inl ?_, rd_keep _ _ rfl⟩
        rw [hi2, List.take_length]


theorem count_no (b : List UInt8) (left : Int) (h : cnt b = none) : FCx Try.prog 67 [.ptr 0 0 0] (rdM b left) 1 (flt 4) := by
  refine FCx_of_awp (fn := Try.f67) (c := bodyC Try.f67) Try.func67 rfl (of_decide_eq_true rfl) [2000001, 1000000 + 66, 3000000 + 66] rfl ?_
  conv => whnf
  cases b with
  | nil =>
    refine .inr ⟨[0], _, _, _, take_no [] left 1 (by simp), ⟨rfl, ⟨rfl, trivial⟩, rfl, rfl, rd_in rfl⟩, ?_⟩
    conv => whnf
    all_goals rfl
  | cons k t =>
    refine .inl ⟨[0], _, _, _, _, rdM t left, _, take_ok (k :: t) left 1 (by simp), ⟨rfl, ⟨rfl, trivial⟩, rfl, rfl, rd_in rfl, rfl, rfl, rd_out _ _ _⟩, ?_⟩
    conv => whnf
    refine ⟨by decide, nthK_intro (bytes_get (l := [k]) (i := 0) rfl) ?_⟩
    conv => whnf
    have hk : IntKind.i64.wrap (k.toNat : Int) = (k.toNat : Int) := wrap_i64 _ (by omega) (by have := k.toNat_lt; omega)
    rw [hk]
    refine br_intro (fun h8 => ?_) (fun h8 => ?_) <;> (rw [h8]; conv => whnf)
    · rfl
    have h8 := of_decide_eq_false h8
    by_cases hl : k.toNat > t.length
    · refine .inr ⟨[0], _, _, _, take_no t left k.toNat hl, ⟨rfl, ⟨rfl, trivial⟩, rfl, rfl, rd_in rfl⟩, ?_⟩
      conv => whnf
      all_goals rfl
    · have t2 := take_ok t left k.toNat (by omega)
      unfold cnt at h
      dsimp only at h
      rw [if_neg (by omega)] at h
      split at h
      · rename_i h2
        obtain ⟨u, hu⟩ : ∃ u, t = 0 :: u := by
          cases t with
          | nil => simp at h2
          | cons x u => simp at h2; exact ⟨u, by rw [h2.2]⟩
        generalize hL : t.take k.toNat = L at t2
        have h0 : L[0]? = some 0 := by rw [← hL, List.getElem?_take, if_pos h2.1, hu]; rfl
        refine .inl ⟨[0], _, _, _, _, rdM (t.drop k.toNat) left, _, t2, ⟨rfl, ⟨rfl, trivial⟩, rfl, rfl, rd_in rfl, rfl, rfl, rd_out _ _ _⟩, ?_⟩
        conv => whnf
        rw [show decide ((k.toNat : Int) > 0) = true from decide_eq_true (by omega)]
        conv => whnf
        refine ⟨by decide, nthK_intro (bytes_get h0) ?_⟩
        conv => whnf
        all_goals rfl
      · cases h

theorem siz_lt {most : Nat} {b r : List UInt8} {n : Nat} (h : siz most b = some (n, r)) : n ≤ most ∧ r.length < b.length ∧ cnt b = some (n, r) := by
  unfold siz at h
  split at h
  · cases h
  · rename_i n' r' hc
    split at h
    · cases h
    · cases h
      exact ⟨by omega, (cnt_lt hc).2, hc⟩
theorem size_ok (b r : List UInt8) (left : Int) (most n : Nat) (hm : most ≤ 1000000) (h : siz most b = some (n, r)) :
    FCm Try.prog 68 [.ptr 0 0 0, i64 most] (rdM b left) 1 (i64 n) (rdM r left) := by
  obtain ⟨h1, h2, h3⟩ := siz_lt h
  refine FCm_of_awp (fn := Try.f68) (c := bodyC Try.f68) Try.func68 rfl (of_decide_eq_true rfl) [2000001, 1000000 + 67, 3000000 + 67] rfl ?_
  conv => whnf
  refine .inl ⟨[0], _, _, _, _, rdM r left, _, count_ok b r left n h3, ⟨rfl, ⟨rfl, trivial⟩, rfl, rfl, rd_in rfl, rfl, rfl, rd_out _ _ _⟩, ?_⟩
  conv => whnf
  rw [show IntKind.u64.wrap (most : Int) = (most : Int) by rw [wrap_mod .u64 rfl, Nat.mod_eq_of_lt (by show _ < 18446744073709551616; omega)]]
  rw [show decide ((n : Int) > (most : Int)) = false from decide_eq_false (by omega)]
  conv => whnf
  refine ⟨[(0, 0)], ⟨rfl, rfl, rfl⟩, .inl (congrArg i64 (wrap_i64 _ (by omega) (by omega))), rd_keep _ _ rfl⟩
theorem size_no (b : List UInt8) (left : Int) (most : Nat) (hm : most ≤ 1000000) (h : siz most b = none) :
    FCx Try.prog 68 [.ptr 0 0 0, i64 most] (rdM b left) 1 (flt 4) := by
  refine FCx_of_awp (fn := Try.f68) (c := bodyC Try.f68) Try.func68 rfl (of_decide_eq_true rfl) [2000001, 1000000 + 67, 3000000 + 67] rfl ?_
  conv => whnf
  cases hc : cnt b with
  | none =>
    refine .inr ⟨[0], _, _, _, count_no b left hc, ⟨rfl, ⟨rfl, trivial⟩, rfl, rfl, rd_in rfl⟩, ?_⟩
    conv => whnf
    all_goals rfl
  | some p =>
    obtain ⟨n, r⟩ := p
    unfold siz at h
    rw [hc] at h
    dsimp only at h
    split at h
    · rename_i hn
      refine .inl ⟨[0], _, _, _, _, rdM r left, _, count_ok b r left n hc, ⟨rfl, ⟨rfl, trivial⟩, rfl, rfl, rd_in rfl, rfl, rfl, rd_out _ _ _⟩, ?_⟩
      conv => whnf
      rw [show IntKind.u64.wrap (most : Int) = (most : Int) by rw [wrap_mod .u64 rfl, Nat.mod_eq_of_lt (by show _ < 18446744073709551616; omega)]]
      rw [show decide ((n : Int) > (most : Int)) = true from decide_eq_true (by omega)]
      conv => whnf
      all_goals rfl
    · cases h

end Go.AW.Wir

/- The wire: items read, walked. -/
set_option linter.unusedVariables false
set_option linter.unusedSimpArgs false
namespace Go.AW.Wir
open Go Go.AW Go.Proofs
set_option maxRecDepth 10000
set_option pp.maxSteps 60

theorem ofInt_nat (n : Nat) : BitVec.ofInt 64 (n : Int) = BitVec.ofNat 64 n := by
  apply BitVec.eq_of_toNat_eq
  rw [BitVec.toNat_ofInt, BitVec.toNat_ofNat]
  omega
theorem wrap_neg {z : Int} {n : Nat} (h : (n : Int) = z + 18446744073709551616) (h1 : -9223372036854775808 ≤ z) (h2 : z < 0) : IntKind.i64.wrap (n : Int) = z := by
  have e1 : (2 : Int) ^ IntKind.i64.bits = 18446744073709551616 := by decide
  have e2 : (2 : Int) ^ (IntKind.i64.bits - 1) = 9223372036854775808 := by decide
  simp only [IntKind.wrap, e1, e2, show IntKind.i64.signed = true from rfl, Bool.true_and, decide_eq_true_eq]
  split <;> rename_i h0 <;> omega
theorem and1_nat (n : Nat) (h : n < 18446744073709551616) : bitsI .and .u64 (n : Int) 1 = ((n % 2 : Nat) : Int) := by
  have e : bitsI .and .u64 ((BitVec.ofNat 64 n).toNat : Int) ((1#64 : BitVec 64).toNat : Int) = (((BitVec.ofNat 64 n) &&& 1#64 : BitVec 64).toNat : Int) := and_u .u64 rfl _ _
  rw [BitVec.toNat_and, BitVec.toNat_ofNat, Nat.mod_eq_of_lt h] at e
  refine Eq.trans e ?_
  exact congrArg Nat.cast (Nat.and_one_is_mod n)
theorem unzig_int (n : Nat) (h : n < 18446744073709551616) : bitsI .xor .i64 (IntKind.i64.wrap ((n : Int).fdiv (2 ^ min (Int.toNat 1) IntKind.u64.bits))) (IntKind.i64.wrap (0 - IntKind.i64.wrap (bitsI .and .u64 (n : Int) 1))) = unzig n := by
  have h2 : (n : Int).fdiv (2 ^ min (Int.toNat 1) IntKind.u64.bits) = ((n / 2 : Nat) : Int) := by
    have e : (2 : Int) ^ min (Int.toNat 1) IntKind.u64.bits = ((2 : Nat) : Int) := by decide
    rw [e, ← Int.ofNat_fdiv]
  rw [h2, and1_nat n h, wrap_i64 ((n / 2 : Nat) : Int) (by omega) (by omega), wrap_i64 ((n % 2 : Nat) : Int) (by omega) (by omega), wrap_i64 (0 - ((n % 2 : Nat) : Int)) (by omega) (by omega)]
  have hbits : ∀ x y : Int, bitsI .xor .i64 x y = IntKind.i64.wrap ((BitVec.ofInt 64 x ^^^ BitVec.ofInt 64 y : BitVec 64).toNat : Int) := fun _ _ => rfl
  rw [hbits, ofInt_nat]
  unfold unzig
  rcases Nat.mod_two_eq_zero_or_one n with e | e
  · rw [e, if_pos rfl]
    have : BitVec.ofInt 64 (0 - ((0 : Nat) : Int)) = 0#64 := by decide
    rw [this, BitVec.xor_zero, BitVec.toNat_ofNat, Nat.mod_eq_of_lt (by omega)]
    exact wrap_i64 _ (by omega) (by omega)
  · rw [e, if_neg (by decide)]
    have : BitVec.ofInt 64 (0 - ((1 : Nat) : Int)) = BitVec.allOnes 64 := by decide
    rw [this, BitVec.xor_allOnes, BitVec.toNat_not, BitVec.toNat_ofNat, Nat.mod_eq_of_lt (by omega)]
    exact wrap_neg (by omega) (by omega) (by omega)

theorem decL_left_of {f : Nat} (ih : ∀ {left left' : Int} {b r : List UInt8} {i : It}, dec f left b = some (i, left', r) → 0 ≤ left' ∧ left' < left ∧ r.length < b.length) :
    ∀ (n : Nat) {left left' : Int} {b r : List UInt8} {l : List It}, decL f n left b = some (l, left', r) → (0 ≤ left → 0 ≤ left') ∧ left' ≤ left ∧ r.length ≤ b.length ∧ l.length = n
  | 0, left, left', b, r, l, h => by
    rw [decL_zero] at h
    cases h
    exact ⟨id, Int.le_refl _, Nat.le_refl _, rfl⟩
  | n + 1, left, left', b, r, l, h => by
    rw [decL_succ] at h
    cases hd : dec f left b with
    | none => rw [hd] at h; cases h
    | some p =>
      obtain ⟨i, a, q⟩ := p
      obtain ⟨h1, h2, h3⟩ := ih hd
      rw [hd] at h
      dsimp only at h
      cases hl : decL f n a q with
      | none => rw [hl] at h; cases h
      | some p =>
        obtain ⟨l', a', q'⟩ := p
        rw [hl] at h
        cases h
        obtain ⟨g1, g2, g3, g4⟩ := decL_left_of ih n hl
        exact ⟨fun _ => g1 h1, by omega, by omega, by simp [g4]⟩
theorem dec_left : ∀ {f : Nat} {left left' : Int} {b r : List UInt8} {i : It}, dec f left b = some (i, left', r) → 0 ≤ left' ∧ left' < left ∧ r.length < b.length
  | 0, left, left', b, r, i, h => by rw [dec_zero] at h; cases h
  | f + 1, left, left', b, r, i, h => by
    cases b with
    | nil => rw [dec_nil] at h; cases h
    | cons k t =>
      rw [dec_cons] at h
      split at h
      · cases h
      rename_i hl
      split at h
      · split at h
        · cases h
        · rename_i hc
          cases h
          have := (cnt_lt hc).2
          exact ⟨by omega, by omega, by rw [List.length_cons]; omega⟩
      · split at h
        · split at h
          · cases h
          · rename_i hc
            split at h
            · cases h
            · cases h
              have := (siz_lt hc).2.1
              exact ⟨by omega, by omega, by rw [List.length_cons, List.length_drop]; omega⟩
        · split at h
          · split at h
            · cases h
            · rename_i hc
              split at h
              · cases h
              · rename_i hd
                cases h
                have := (siz_lt hc).2.1
                obtain ⟨g1, g2, g3, _⟩ := decL_left_of (fun h => dec_left h) _ hd
                exact ⟨g1 (by omega), by omega, by rw [List.length_cons]; omega⟩
          · cases h

abbrev RLI : List Nat := [2000001, 1000000 + 66, 3000000 + 66, 1000000 + 67, 3000000 + 67, 1000000 + 68, 3000000 + 68, 1000000 + 57, 3000000 + 57]
def ItemOk (f : Nat) : Prop := ∀ (deep left left' : Int) (b r : List UInt8) (i : It), deep + f = 13 → 1 ≤ deep → 0 ≤ left → left ≤ 4096 → b.length ≤ 140737488351232 → dec f left b = some (i, left', r) →
    FCm Try.prog 57 [.ptr 0 0 0, i64 deep] (rdM b left) 1 (itT i) (rdM r left')
def ItemNo (f : Nat) : Prop := ∀ (deep left : Int) (b : List UInt8), deep + f = 13 → 1 ≤ deep → 0 ≤ left → left ≤ 4096 → b.length ≤ 140737488351232 → dec f left b = none →
    FCx Try.prog 57 [.ptr 0 0 0, i64 deep] (rdM b left) 1 (flt 4)

theorem own4_lt (x : Nat) : blkLt x (.own 4 [[i64 0, i64 0, str [], .lit (.slice none 0 0)]]) := by
  intro row hr c hc
  obtain rfl := List.mem_singleton.1 hr
  simp only [List.mem_cons, List.mem_nil_iff, or_false] at hc
  rcases hc with rfl | rfl | rfl | rfl <;> trivial
theorem own4t_lt (x : Nat) (rows : List (List T)) (h : Nat.blt 5 x = true) : blkLt x (.own 4 [[i64 3, i64 0, str [], .sl (some 5) 4 rows]]) := by
  intro row hr c hc
  obtain rfl := List.mem_singleton.1 hr
  simp only [List.mem_cons, List.mem_nil_iff, or_false] at hc
  rcases hc with rfl | rfl | rfl | rfl
  · trivial
  · trivial
  · trivial
  · exact h
theorem item_ok (f : Nat) (ih : ItemOk f) : ItemOk (f + 1) := by
  intro deep left left' b r i hd hd1 hl0 hl1 hb h
  have hdl := dec_left h
  cases b with
  | nil => rw [dec_nil] at h; cases h
  | cons k t =>
    rw [dec_cons] at h
    split at h
    · cases h
    rename_i hl
    refine FCm_of_awp (fn := Try.f57) (c := bodyC Try.f57) Try.func57 rfl (of_decide_eq_true rfl) RLI rfl ?_
    conv => whnf
    rw [wrap_i64 (left - 1) (by omega) (by omega), show decide (left - 1 < 0) = false from decide_eq_false (by omega)]
    conv => whnf
    rw [show decide (deep > 12) = false from decide_eq_false (by omega)]
    conv => whnf
    refine .inl ⟨[0], _, _, _, _, rdM t (left - 1), _, take_ok (k :: t) (left - 1) 1 (by simp), ⟨rfl, ⟨rfl, trivial⟩, rfl, rfl, rd_in rfl, rfl, rfl, rd_out _ _ _⟩, ?_⟩
    conv => whnf
    refine ⟨by decide, nthK_intro (bytes_get (l := [k]) (i := 0) rfl) ?_⟩
    conv => whnf
    split at h
    · rename_i hk
      subst hk
      rw [show (((1 : UInt8).toNat : Int) == 1) = true from rfl]
      conv => whnf
      split at h
      · cases h
      rename_i n r' hc
      cases h
      refine .inl ⟨[0], _, _, _, _, rdM r (left - 1), _, count_ok t r (left - 1) n hc, ⟨rfl, ⟨rfl, trivial⟩, rfl, rfl, rd_in rfl, rfl, rfl, rd_out _ _ _⟩, ?_⟩
      conv => whnf
      refine ⟨by decide, ?_⟩
      conv => whnf
      refine ⟨[(0, 0)], ⟨rfl, rfl, rfl⟩, .inr (.inr (.inr ⟨.inl rfl, .inl (congrArg i64 (unzig_int n (cnt_lt hc).1)), .inl rfl, .inr (.inl ⟨rfl, 4, rfl⟩), trivial⟩)), rd_keep _ _ rfl⟩
    · split at h
      · rename_i hk1 hk
        subst hk
        rw [show (((2 : UInt8).toNat : Int) == 1) = false from rfl]
        conv => whnf
        rw [show (((2 : UInt8).toNat : Int) == 2) = true from rfl]
        conv => whnf
        split at h
        · cases h
        rename_i n r' hc
        split at h
        · cases h
        rename_i hn
        cases h
        refine .inl ⟨[0], _, _, _, _, rdM r' (left - 1), _, size_ok t r' (left - 1) 4096 n (by decide) hc, ⟨rfl, ⟨rfl, trivial⟩, rfl, rfl, rd_in rfl, rfl, rfl, rd_out _ _ _⟩, ?_⟩
        conv => whnf
        refine .inl ⟨[0], _, _, _, _, rdM (r'.drop n) (left - 1), _, take_ok r' (left - 1) n (by omega), ⟨rfl, ⟨rfl, trivial⟩, rfl, rfl, rd_in rfl, rfl, rfl, rd_out _ _ _⟩, ?_⟩
        conv => whnf
        refine ⟨_, ⟨rfl, rfl⟩, ?_⟩
        conv => whnf
        refine ⟨[(0, 0)], ⟨rfl, rfl, rfl⟩, .inr (.inr (.inr ⟨.inl rfl, .inl rfl, .inl rfl, .inr (.inl ⟨rfl, 4, rfl⟩), trivial⟩)), rd_keep _ _ rfl⟩
      · split at h
        · rename_i hk1 hk2 hk
          subst hk
          rw [show (((3 : UInt8).toNat : Int) == 1) = false from rfl]
          conv => whnf
          rw [show (((3 : UInt8).toNat : Int) == 2) = false from rfl]
          conv => whnf
          rw [show (((3 : UInt8).toNat : Int) == 3) = true from rfl]
          conv => whnf
          split at h
          · cases h
          rename_i n r' hc
          refine .inl ⟨[0], _, _, _, _, rdM r' (left - 1), _, size_ok t r' (left - 1) 4096 n (by decide) hc, ⟨rfl, ⟨rfl, trivial⟩, rfl, rfl, rd_in rfl, rfl, rfl, rd_out _ _ _⟩, ?_⟩
          conv => whnf
          have h16 := siz_lt hc
          have hbl : r'.length ≤ 140737488351232 := by have := h16.2.1; simp only [List.length_cons] at hb; omega
          refine loop_intro (fun y : { y : List It × Int × List UInt8 // y.1.length ≤ n ∧ 0 ≤ y.2.1 ∧ y.2.1 ≤ 4096 ∧ y.2.2.length ≤ 140737488351232 ∧ decL f n (left - 1) r' = (match decL f (n - y.1.length) y.2.1 y.2.2 with | none => none | some (l, a, b) => some (y.1 ++ l, a, b)) } =>
            ⟨[(0, .ptr 0 0 0), (1, i64 deep), (4, .ptr 1 0 0), (6, .ptr 3 0 0), (54, i64 (n : Nat)), (55, i64 (y.1.1.length : Nat))],
              [(0, .own 2 [[.sl none 1 (bytesR y.1.2.2), i64 y.1.2.1]]), (1, .own 4 [[i64 0, i64 0, str [], .lit (.slice none 0 0)]]), (3, .own 4 [[i64 3, i64 0, str [], .sl (some 5) 4 (itR y.1.1)]]), (5, .tok 4 y.1.1.length)], 70, 6, RLI⟩)
            (fun y => n - y.1.1.length) ⟨([], left - 1, r'), by simp, by dsimp only; omega, by dsimp only; omega, by dsimp only; omega, ?_⟩ ?_ ?_
          · dsimp only
            simp only [List.length_nil, Nat.sub_zero, List.nil_append]
            cases decL f n (left - 1) r' with
            | none => rfl
            | some p => rfl
          · refine Wk.intro [(5, 4)] rfl (fun p hp => by obtain rfl := List.mem_singleton.1 hp; exact ⟨Nat.le_of_ble_eq_true rfl, Nat.le_of_ble_eq_true rfl, fun q hq _ => List.mem_singleton.1 hq⟩)
              ⟨.same rfl (by exact rfl), .same rfl trivial, .same rfl (by exact rfl), .same rfl (by exact rfl), .same rfl trivial, .same rfl trivial, trivial⟩
              ⟨⟨rfl, .inl ⟨rfl, rd_lt _ _ _⟩⟩, ⟨rfl, .inl ⟨rfl, own4_lt _⟩⟩, ⟨rfl, .inr (.inr ⟨4, [[i64 3, i64 0, str [], .lit (.slice none 0 0)]], [[i64 3, i64 0, str [], .sl (some 5) 4 (itR [])]], rfl, rfl, ⟨⟨.same rfl trivial, .same rfl trivial, .same rfl trivial, .inr (.inr (.inr (.inl ⟨rfl, 5, 4, rfl, by simp⟩))), trivial⟩, trivial⟩⟩)⟩, ⟨rfl, .inr (.inl ⟨4, by simp, rfl⟩)⟩, trivial⟩
          rintro ⟨⟨acc, a, q⟩, g1, g2, g3, g4, g5⟩
          dsimp only at g1 g2 g3 g4 g5 ⊢
          conv => whnf
          refine br_intro (fun h1 => ?_) (fun h1 => ?_) <;> (rw [h1]; conv => whnf)
          · have hn1 : acc.length < n := by have := of_decide_eq_true h1; omega
            obtain ⟨m, hm⟩ : ∃ m, n - acc.length = m + 1 := ⟨n - acc.length - 1, by omega⟩
            rw [hm, decL_succ] at g5
            cases hde : dec f a q with
            | none => rw [hde] at g5; rw [g5] at h; cases h
            | some p =>
              obtain ⟨i', a', q'⟩ := p
              have hdl' := dec_left hde
              rw [hde] at g5
              dsimp only at g5
              have hc1 := ih (deep + 1) a a' q q' i' (by omega) (by omega) g2 g3 g4 hde
              rw [wrap_i64 (deep + 1) (by omega) (by omega)]
              refine .inl ⟨[0], ?_⟩
              conv => whnf
              refine ⟨_, _, _, _, rdM q' a', _, hc1, ⟨rfl, ⟨rfl, trivial⟩, rfl, rfl, rd_in rfl, rfl, rfl, rd_out _ _ _⟩, ?_⟩
              conv => whnf
              have nb : (Try.prog.types[46]).bytes = 56 := rfl
              refine ⟨itR_len _, by rw [itR_len, nb]; show (acc.length + 1) * 56 ≤ _; omega, by rw [itR_len]; show acc.length + 1 ≤ _; omega, ?_⟩
              conv => whnf
              have hlen : (acc ++ [i']).length = acc.length + 1 := by simp
              rw [wrap_i64 ((acc.length : Int) + 1) (by omega) (by omega)]
              refine Nx.intro ⟨(acc ++ [i'], a', q'), by dsimp only; omega, by dsimp only; omega, by dsimp only; omega, by dsimp only; omega, ?_⟩ (by dsimp only; omega) ?_
              · dsimp only
                rw [g5, hlen, show n - (acc.length + 1) = m by omega]
                cases decL f m a' q' with
                | none => rfl
                | some p => simp only [List.append_assoc, List.cons_append, List.nil_append]
              · have hrows : itR acc ++ [itC i'] = itR (acc ++ [i']) := itR_append acc [i']
                refine Wk.intro [] rfl (fun p hp => by cases hp) ⟨.same rfl (by exact rfl), .same rfl trivial, .same rfl (by exact rfl), .same rfl (by exact rfl), .same rfl trivial, .same (congrArg i64 (by rw [hlen]; rfl)) trivial, trivial⟩
                  ⟨⟨rfl, .inl ⟨rfl, rd_lt _ _ _⟩⟩, ⟨rfl, .inl ⟨rfl, own4_lt _⟩⟩, ⟨rfl, .inl ⟨?_, own4t_lt _ _ (by exact rfl)⟩⟩, ⟨rfl, .inl ⟨?_, trivial⟩⟩, trivial⟩
                · show some (Blk.own 4 [[i64 3, i64 0, str [], T.sl (some 5) 4 (itR acc ++ [itC i'])]]) = _
                  rw [hrows]
                · show some (Blk.tok 4 ((itR acc).length + 1)) = _
                  rw [itR_len, hlen]
          · have hn1 : n = acc.length := by have := of_decide_eq_false h1; omega
            subst hn1
            rw [Nat.sub_self, decL_zero] at g5
            rw [g5] at h
            cases h
            refine ⟨[(0, 0)], ⟨rfl, rfl, rfl⟩, .inr (.inr (.inr ⟨.inl rfl, .inl rfl, .inl rfl, .inl ?_, trivial⟩)), rd_keep _ _ rfl⟩
            show T.sl none 4 (itR acc) = T.sl none 4 ((acc ++ []).map itCx)
            rw [List.append_nil, itCx_eq]; rfl
        · cases h

theorem item_no (f : Nat) (ihk : ItemOk f) (ih : ItemNo f) : ItemNo (f + 1) := by
  intro deep left b hd hd1 hl0 hl1 hb h
  refine FCx_of_awp (fn := Try.f57) (c := bodyC Try.f57) Try.func57 rfl (of_decide_eq_true rfl) RLI rfl ?_
  conv => whnf
  rw [wrap_i64 (left - 1) (by omega) (by omega)]
  by_cases hl : left - 1 < 0
  · rw [show decide (left - 1 < 0) = true from decide_eq_true hl]
    conv => whnf
    all_goals rfl
  rw [show decide (left - 1 < 0) = false from decide_eq_false hl]
  conv => whnf
  rw [show decide (deep > 12) = false from decide_eq_false (by omega)]
  conv => whnf
  cases b with
  | nil =>
    refine .inr ⟨[0], _, _, _, take_no [] (left - 1) 1 (by simp), ⟨rfl, ⟨rfl, trivial⟩, rfl, rfl, rd_in rfl⟩, ?_⟩
    conv => whnf
    all_goals rfl
  | cons k t =>
    rw [dec_cons, if_neg hl] at h
    refine .inl ⟨[0], _, _, _, _, rdM t (left - 1), _, take_ok (k :: t) (left - 1) 1 (by simp), ⟨rfl, ⟨rfl, trivial⟩, rfl, rfl, rd_in rfl, rfl, rfl, rd_out _ _ _⟩, ?_⟩
    conv => whnf
    refine ⟨by decide, nthK_intro (bytes_get (l := [k]) (i := 0) rfl) ?_⟩
    conv => whnf
    by_cases hk1 : k = 1
    · subst hk1
      rw [if_pos rfl] at h
      rw [show (((1 : UInt8).toNat : Int) == 1) = true from rfl]
      conv => whnf
      cases hc : cnt t with
      | some p => rw [hc] at h; cases h
      | none =>
        refine .inr ⟨[0], _, _, _, count_no t (left - 1) hc, ⟨rfl, ⟨rfl, trivial⟩, rfl, rfl, rd_in rfl⟩, ?_⟩
        conv => whnf
        all_goals rfl
    rw [if_neg hk1] at h
    rw [show ((k.toNat : Int) == 1) = false from beq_eq_false_iff_ne.2 (fun e => hk1 (UInt8.toNat_inj.1 (by have hz : k.toNat = 1 := (by omega); exact hz)))]
    conv => whnf
    by_cases hk2 : k = 2
    · subst hk2
      rw [if_pos rfl] at h
      rw [show (((2 : UInt8).toNat : Int) == 2) = true from rfl]
      conv => whnf
      cases hc : siz 4096 t with
      | none =>
        refine .inr ⟨[0], _, _, _, size_no t (left - 1) 4096 (by decide) hc, ⟨rfl, ⟨rfl, trivial⟩, rfl, rfl, rd_in rfl⟩, ?_⟩
        conv => whnf
        all_goals rfl
      | some p =>
        obtain ⟨n, r'⟩ := p
        rw [hc] at h
        dsimp only at h
        split at h
        · rename_i hn
          refine .inl ⟨[0], _, _, _, _, rdM r' (left - 1), _, size_ok t r' (left - 1) 4096 n (by decide) hc, ⟨rfl, ⟨rfl, trivial⟩, rfl, rfl, rd_in rfl, rfl, rfl, rd_out _ _ _⟩, ?_⟩
          conv => whnf
          refine .inr ⟨[0], _, _, _, take_no r' (left - 1) n (by omega), ⟨rfl, ⟨rfl, trivial⟩, rfl, rfl, rd_in rfl⟩, ?_⟩
          conv => whnf
          all_goals rfl
        · cases h
    rw [if_neg hk2] at h
    rw [show ((k.toNat : Int) == 2) = false from beq_eq_false_iff_ne.2 (fun e => hk2 (UInt8.toNat_inj.1 (by have hz : k.toNat = 2 := (by omega); exact hz)))]
    conv => whnf
    by_cases hk3 : k = 3
    · subst hk3
      rw [if_pos rfl] at h
      rw [show (((3 : UInt8).toNat : Int) == 3) = true from rfl]
      conv => whnf
      cases hc : siz 4096 t with
      | none =>
        refine .inr ⟨[0], _, _, _, size_no t (left - 1) 4096 (by decide) hc, ⟨rfl, ⟨rfl, trivial⟩, rfl, rfl, rd_in rfl⟩, ?_⟩
        conv => whnf
        all_goals rfl
      | some p =>
        obtain ⟨n, r'⟩ := p
        rw [hc] at h
        dsimp only at h
        have hdl : decL f n (left - 1) r' = none := by
          cases hx : decL f n (left - 1) r' with
          | none => rfl
          | some p => rw [hx] at h; cases h
        clear h
        refine .inl ⟨[0], _, _, _, _, rdM r' (left - 1), _, size_ok t r' (left - 1) 4096 n (by decide) hc, ⟨rfl, ⟨rfl, trivial⟩, rfl, rfl, rd_in rfl, rfl, rfl, rd_out _ _ _⟩, ?_⟩
        conv => whnf
        have h16 := siz_lt hc
        have hbl : r'.length ≤ 140737488351232 := by have := h16.2.1; simp only [List.length_cons] at hb; omega
        refine loop_intro (fun y : { y : List It × Int × List UInt8 // y.1.length ≤ n ∧ 0 ≤ y.2.1 ∧ y.2.1 ≤ 4096 ∧ y.2.2.length ≤ 140737488351232 ∧ decL f (n - y.1.length) y.2.1 y.2.2 = none } =>
          ⟨[(0, .ptr 0 0 0), (1, i64 deep), (4, .ptr 1 0 0), (6, .ptr 3 0 0), (54, i64 (n : Nat)), (55, i64 (y.1.1.length : Nat))],
            [(0, .own 2 [[.sl none 1 (bytesR y.1.2.2), i64 y.1.2.1]]), (1, .own 4 [[i64 0, i64 0, str [], .lit (.slice none 0 0)]]), (3, .own 4 [[i64 3, i64 0, str [], .sl (some 5) 4 (itR y.1.1)]]), (5, .tok 4 y.1.1.length)], 70, 6, RLI⟩)
          (fun y => n - y.1.1.length) ⟨([], left - 1, r'), by simp, by dsimp only; omega, by dsimp only; omega, by dsimp only; omega, hdl⟩ ?_ ?_
        · refine Wk.intro [(5, 4)] rfl (fun p hp => by obtain rfl := List.mem_singleton.1 hp; exact ⟨Nat.le_of_ble_eq_true rfl, Nat.le_of_ble_eq_true rfl, fun q hq _ => List.mem_singleton.1 hq⟩)
            ⟨.same rfl (by exact rfl), .same rfl trivial, .same rfl (by exact rfl), .same rfl (by exact rfl), .same rfl trivial, .same rfl trivial, trivial⟩
            ⟨⟨rfl, .inl ⟨rfl, rd_lt _ _ _⟩⟩, ⟨rfl, .inl ⟨rfl, own4_lt _⟩⟩, ⟨rfl, .inr (.inr ⟨4, [[i64 3, i64 0, str [], .lit (.slice none 0 0)]], [[i64 3, i64 0, str [], .sl (some 5) 4 (itR [])]], rfl, rfl, ⟨⟨.same rfl trivial, .same rfl trivial, .same rfl trivial, .inr (.inr (.inr (.inl ⟨rfl, 5, 4, rfl, by simp⟩))), trivial⟩, trivial⟩⟩)⟩, ⟨rfl, .inr (.inl ⟨4, by simp, rfl⟩)⟩, trivial⟩
        rintro ⟨⟨acc, a, q⟩, g1, g2, g3, g4, g5⟩
        dsimp only at g1 g2 g3 g4 g5 ⊢
        conv => whnf
        refine br_intro (fun h1 => ?_) (fun h1 => ?_) <;> (rw [h1]; conv => whnf)
        · have hn1 : acc.length < n := by have := of_decide_eq_true h1; omega
          obtain ⟨m, hm⟩ : ∃ m, n - acc.length = m + 1 := ⟨n - acc.length - 1, by omega⟩
          rw [hm, decL_succ] at g5
          rw [wrap_i64 (deep + 1) (by omega) (by omega)]
          cases hde : dec f a q with
          | none =>
            refine .inr ⟨[0], ?_⟩
            conv => whnf
            refine ⟨_, _, _, ih (deep + 1) a q (by omega) (by omega) g2 g3 g4 hde, ⟨rfl, ⟨rfl, trivial⟩, rfl, rfl, rd_in rfl⟩, ?_⟩
            conv => whnf
            all_goals rfl
          | some p =>
            obtain ⟨i', a', q'⟩ := p
            have hdl' := dec_left hde
            rw [hde] at g5
            dsimp only at g5
            have hc1 := ihk (deep + 1) a a' q q' i' (by omega) (by omega) g2 g3 g4 hde
            refine .inl ⟨[0], ?_⟩
            conv => whnf
            refine ⟨_, _, _, _, rdM q' a', _, hc1, ⟨rfl, ⟨rfl, trivial⟩, rfl, rfl, rd_in rfl, rfl, rfl, rd_out _ _ _⟩, ?_⟩
            conv => whnf
            have nb : (Try.prog.types[46]).bytes = 56 := rfl
            refine ⟨itR_len _, by rw [itR_len, nb]; show (acc.length + 1) * 56 ≤ _; omega, by rw [itR_len]; show acc.length + 1 ≤ _; omega, ?_⟩
            conv => whnf
            have hlen : (acc ++ [i']).length = acc.length + 1 := by simp
            rw [wrap_i64 ((acc.length : Int) + 1) (by omega) (by omega)]
            refine Nx.intro ⟨(acc ++ [i'], a', q'), by dsimp only; omega, by dsimp only; omega, by dsimp only; omega, by dsimp only; omega, ?_⟩ (by dsimp only; omega) ?_
            · dsimp only
              rw [hlen, show n - (acc.length + 1) = m by omega]
              cases hx : decL f m a' q' with
              | none => rfl
              | some p => rw [hx] at g5; cases g5
            · have hrows : itR acc ++ [itC i'] = itR (acc ++ [i']) := itR_append acc [i']
              refine Wk.intro [] rfl (fun p hp => by cases hp) ⟨.same rfl (by exact rfl), .same rfl trivial, .same rfl (by exact rfl), .same rfl (by exact rfl), .same rfl trivial, .same (congrArg i64 (by rw [hlen]; rfl)) trivial, trivial⟩
                ⟨⟨rfl, .inl ⟨rfl, rd_lt _ _ _⟩⟩, ⟨rfl, .inl ⟨rfl, own4_lt _⟩⟩, ⟨rfl, .inl ⟨?_, own4t_lt _ _ (by exact rfl)⟩⟩, ⟨rfl, .inl ⟨?_, trivial⟩⟩, trivial⟩
              · show some (Blk.own 4 [[i64 3, i64 0, str [], T.sl (some 5) 4 (itR acc ++ [itC i'])]]) = _
                rw [hrows]
              · show some (Blk.tok 4 ((itR acc).length + 1)) = _
                rw [itR_len, hlen]
        · have hn1 : n = acc.length := by have := of_decide_eq_false h1; omega
          subst hn1
          rw [Nat.sub_self, decL_zero] at g5
          cases g5
    rw [if_neg hk3] at h
    rw [show ((k.toNat : Int) == 3) = false from beq_eq_false_iff_ne.2 (fun e => hk3 (UInt8.toNat_inj.1 (by have hz : k.toNat = 3 := (by omega); exact hz)))]
    conv => whnf
    all_goals rfl

theorem item_zero_no : ItemNo 0 := by
  intro deep left b hd hd1 hl0 hl1 hb h
  refine FCx_of_awp (fn := Try.f57) (c := bodyC Try.f57) Try.func57 rfl (of_decide_eq_true rfl) RLI rfl ?_
  conv => whnf
  rw [wrap_i64 (left - 1) (by omega) (by omega)]
  refine br_intro (fun h => ?_) (fun h => ?_) <;> (rw [h]; conv => whnf)
  · all_goals rfl
  rw [show decide (deep > 12) = true from decide_eq_true (by omega)]
  conv => whnf
  all_goals rfl
theorem items : ∀ f : Nat, ItemOk f ∧ ItemNo f
  | 0 => ⟨fun deep left left' b r i _ _ _ _ _ h => (by rw [dec_zero] at h; cases h), item_zero_no⟩
  | f + 1 => ⟨item_ok f (items f).1, item_no f (items f).1 (items f).2⟩
end Go.AW.Wir

/- The wire: decoding, walked. -/
set_option linter.unusedVariables false
set_option linter.unusedSimpArgs false
namespace Go.AW.Wir
open Go Go.AW Go.Proofs
set_option maxRecDepth 10000
set_option pp.maxSteps 60

def flatB (rows : List (List T)) : Prop := ∀ row ∈ rows, ∀ c ∈ row, bvN c = true
theorem dom0_bvN (σ : List (Nat × Nat)) {c : T} (h : bvN c = true) : dom0 σ c = true := by
  cases c <;> first | rfl | (simp [bvN] at h; done) | (rename_i tok _ _; cases tok <;> first | rfl | (simp [bvN] at h))
theorem ren0_bvN (σ : List (Nat × Nat)) {c : T} (h : bvN c = true) : ren0 σ c = c := by
  cases c <;> first | rfl | (simp [bvN] at h; done) | (rename_i tok _ _; cases tok <;> first | rfl | (simp [bvN] at h))
theorem domB_flat (σ : List (Nat × Nat)) {sz : Nat} {rows : List (List T)} (h : flatB rows) : domB σ (.own sz rows) := fun row hr c hc => dom0_bvN σ (h row hr c hc)
theorem renB_flat (σ : List (Nat × Nat)) {sz : Nat} {rows : List (List T)} (h : flatB rows) : renB σ (.own sz rows) = .own sz rows := by
  show Blk.own sz (rows.map fun r => r.map (ren0 σ)) = _
  congr 1
  refine (List.map_congr_left fun r hr => ?_).trans (List.map_id _)
  exact (List.map_congr_left fun c hc => ren0_bvN σ (h r hr c hc)).trans (List.map_id _)
theorem itC_flat (i : It) : flatB [itC i] := by
  intro row hr c hc
  obtain rfl := List.mem_singleton.1 hr
  simp only [itC, List.mem_cons, List.mem_nil_iff, or_false] at hc
  rcases hc with rfl | rfl | rfl | rfl <;> rfl
theorem one_flat (v : Int) : flatB [[i64 v]] := by
  intro row hr c hc
  obtain rfl := List.mem_singleton.1 hr
  obtain rfl := List.mem_singleton.1 hc
  rfl
/-- The results of a decoding, as cells. -/
def dcM (row : List T) (e : Int) : Mem := [(0, .own 4 [row]), (1, .own 1 [[i64 e]])]

theorem ddec_none (row : List T) (hrow : flatB [row]) (e : Int) : FCd Try.prog 56 [.ptr 0 0 0, .ptr 1 0 0] (dcM row e) 2 none (dcM row e) := by
  refine FCd_of_awp (fn := Try.f56) Try.func56 rfl rfl rfl rfl rfl (of_decide_eq_true rfl) rfl (of_decide_eq_true rfl) rfl [2000002] rfl ?_
  conv => whnf
  refine ⟨[(0, 0), (1, 1)], ⟨rfl, rfl, rfl⟩, trivial, ⟨0, _, rfl, rfl, rfl, renB_flat _ hrow, domB_flat _ hrow⟩, ⟨1, _, rfl, rfl, rfl, renB_flat _ (one_flat e), domB_flat _ (one_flat e)⟩, trivial⟩
abbrev zrow : List T := [i64 0, i64 0, str [], .lit (.slice none 0 0)]
theorem zero_flat : flatB [zrow] := by
  intro row hr c hc
  obtain rfl := List.mem_singleton.1 hr
  simp only [List.mem_cons, List.mem_nil_iff, or_false] at hc
  rcases hc with rfl | rfl | rfl | rfl <;> rfl
theorem ddec_some (row : List T) (h4 : row.length = 4) (e v : Int) : FCd Try.prog 56 [.ptr 0 0 0, .ptr 1 0 0] (dcM row e) 2 (some (flt v)) (dcM zrow v) := by
  match row, h4 with
  | [a, b, c, d], _ =>
    refine FCd_of_awp (fn := Try.f56) Try.func56 rfl rfl rfl rfl rfl (of_decide_eq_true rfl) rfl (of_decide_eq_true rfl) rfl [2000002] rfl ?_
    conv => whnf
    refine ⟨[(0, 0), (1, 1)], ⟨rfl, rfl, rfl⟩, trivial, ⟨0, _, rfl, rfl, rfl, rfl, domB_flat _ zero_flat⟩, ⟨1, _, rfl, rfl, rfl, rfl, domB_flat _ (one_flat v)⟩, trivial⟩

theorem dc_in {m : Mem} {row : List T} {e : Int} (h0 : m.get 0 = some (.own 4 [row])) (h1 : m.get 1 = some (.own 1 [[i64 e]])) (hrow : flatB [row]) : memIn (asIn [0, 1] 0) m (dcM row e) :=
  ⟨⟨rfl, by rw [renB_flat _ hrow]; exact h0, domB_flat _ hrow⟩, ⟨rfl, by rw [renB_flat _ (one_flat e)]; exact h1, domB_flat _ (one_flat e)⟩, trivial⟩
theorem dc_out (id : Nat) {row : List T} {e : Int} (hrow : flatB [row]) : memOut (asIn ([0, 1] ++ [id]) 0) (dcM row e) (dcM row e) :=
  ⟨⟨rfl, rfl, renB_flat _ hrow, domB_flat _ hrow⟩, ⟨rfl, rfl, renB_flat _ (one_flat e), domB_flat _ (one_flat e)⟩, trivial⟩
theorem rd_inj {m : Mem} {j : Nat} {b : List UInt8} {left : Int} (h : m.get j = some (.own 2 [[.sl none 1 (bytesR b), i64 left]])) : memIn (asIn [j] 0) m (rdM b left) :=
  ⟨⟨rfl, h, rd_dom _ b left⟩, trivial⟩
theorem rd_outj (j id : Nat) (b : List UInt8) (left : Int) : memOut (asIn ([j] ++ [id]) 0) (rdM b left) [(j, .own 2 [[.sl none 1 (bytesR b), i64 left]])] :=
  ⟨⟨rfl, rfl, rfl, rd_dom _ b left⟩, trivial⟩
theorem decode_law (b : List UInt8) (hb : b.length ≤ 140737488351232) : FCv Try.prog 37 [.sl none 1 (bytesR b)] (.tup [itT (decode b).1, i64 (decode b).2]) := by
  refine FCv_of_defer (fn := Try.f37) (g := 56) (gn := Try.f56) Try.func37 rfl rfl rfl rfl rfl rfl rfl Try.func56 rfl rfl (of_decide_eq_true rfl) [2000002, 1000000 + 57, 3000000 + 57] ?_
  conv => whnf
  cases hd : dec 12 4096 b with
  | none =>
    have hx := (items 12).2 1 4096 b (by decide) (by decide) (by decide) (by decide) hb hd
    have hr : decode b = (noIt, 4) := by unfold decode; rw [hd]
    rw [hr]
    refine .inr ⟨[2], _, _, _, hx, ⟨rfl, ⟨rfl, trivial⟩, rfl, rfl, rd_inj rfl⟩, ?_⟩
    conv => whnf
    refine ⟨[0, 1], [.ptr 0 0 0, .ptr 1 0 0], dcM [i64 0, i64 0, str [], .lit (.slice none 0 0)] 0, dcM zrow 4, dcM zrow 4, ddec_some _ rfl 0 4, ⟨rfl, ⟨rfl, rfl, trivial⟩, rfl, rfl, dc_in rfl rfl zero_flat, dc_out _ zero_flat⟩, ?_⟩
    conv => whnf
    exact ⟨.inr (.inr (.inr ⟨.inl rfl, .inl rfl, .inl rfl, .inr (.inl ⟨rfl, 4, rfl⟩), trivial⟩)), .inl rfl, trivial⟩
  | some p =>
    obtain ⟨i, left, r⟩ := p
    have hx := (items 12).1 1 4096 left b r i (by decide) (by decide) (by decide) (by decide) hb hd
    refine .inl ⟨[2], _, _, _, _, _, _, hx, ⟨rfl, ⟨rfl, trivial⟩, rfl, rfl, rd_inj rfl, rfl, rfl, rd_outj 2 _ _ _⟩, ?_⟩
    conv => whnf
    cases r with
    | nil =>
      have hr : decode b = (i, 0) := by unfold decode; rw [hd]
      rw [hr]
      rw [show decide (((bytesR []).length : Int) > 0) = false from rfl]
      conv => whnf
      refine ⟨[0, 1], [.ptr 0 0 0, .ptr 1 0 0], dcM (itC i) 0, dcM (itC i) 0, dcM (itC i) 0, ddec_none _ (itC_flat i) 0, ⟨rfl, ⟨rfl, rfl, trivial⟩, rfl, rfl, dc_in rfl rfl (itC_flat i), dc_out _ (itC_flat i)⟩, ?_⟩
      conv => whnf
      exact ⟨.inl rfl, .inl rfl, trivial⟩
    | cons x r =>
      have hr : decode b = (noIt, 4) := by unfold decode; rw [hd]
      rw [hr]
      rw [show decide (((bytesR (x :: r)).length : Int) > 0) = true from decide_eq_true (by rw [bytesR_len, List.length_cons]; omega)]
      conv => whnf
      refine ⟨[0, 1], [.ptr 0 0 0, .ptr 1 0 0], dcM [i64 0, i64 0, str [], .lit (.slice none 0 0)] 4, dcM [i64 0, i64 0, str [], .lit (.slice none 0 0)] 4, dcM [i64 0, i64 0, str [], .lit (.slice none 0 0)] 4, ddec_none _ zero_flat 4, ⟨rfl, ⟨rfl, rfl, trivial⟩, rfl, rfl, dc_in rfl rfl zero_flat, dc_out _ zero_flat⟩, ?_⟩
      conv => whnf
      exact ⟨.inr (.inr (.inr ⟨.inl rfl, .inl rfl, .inl rfl, .inr (.inl ⟨rfl, 4, rfl⟩), trivial⟩)), .inl rfl, trivial⟩
end Go.AW.Wir
