import Derived.Test.YtagligpagpaceaaP1
import Derived.Test.YtagligpagpaceaaProg
/- The wire: its reader, walked. -/
set_option linter.unusedVariables false
set_option linter.unusedSimpArgs false
namespace Go.AW.Wir
open Go Go.AW Go.Proofs
set_option maxRecDepth 10000
set_option pp.maxSteps 60

/-- Why something stops. -/
def flt (e : Int) : Value := .iface 44 (.agg #[.int .i64 e])
/-- A reader's memory. -/
def rdM (b : List UInt8) (left : Int) : Mem := [(0, .own 2 [[.sl none 1 (bytesR b), i64 left]])]

theorem rd_dom (σ : List (Nat × Nat)) (b : List UInt8) (left : Int) : domB σ (.own 2 [[.sl none 1 (bytesR b), i64 left]]) := by
  intro row hr c hc
  obtain rfl := List.mem_singleton.1 hr
  simp only [List.mem_cons, List.mem_nil_iff, or_false] at hc
  rcases hc with rfl | rfl <;> rfl
theorem rd_in {m : Mem} {b : List UInt8} {left : Int} (h : m.get 0 = some (.own 2 [[.sl none 1 (bytesR b), i64 left]])) : memIn (asIn [0] 0) m (rdM b left) :=
  ⟨⟨rfl, h, rd_dom _ b left⟩, trivial⟩
theorem rd_out (id : Nat) (b : List UInt8) (left : Int) : memOut (asIn ([0] ++ [id]) 0) (rdM b left) (rdM b left) :=
  ⟨⟨rfl, rfl, rfl, rd_dom _ b left⟩, trivial⟩
theorem rd_keep (b : List UInt8) (left : Int) {m : Mem} (h : m.get 0 = some (.own 2 [[.sl none 1 (bytesR b), i64 left]])) : memKeep [(0, 0)] m (rdM b left) :=
  ⟨⟨0, _, rfl, rfl, h, rfl, rd_dom _ b left⟩, trivial⟩

theorem rd_lt (x : Nat) (b : List UInt8) (left : Int) : blkLt x (.own 2 [[.sl none 1 (bytesR b), i64 left]]) := by
  intro row hr c hc
  obtain rfl := List.mem_singleton.1 hr
  simp only [List.mem_cons, List.mem_nil_iff, or_false] at hc
  rcases hc with rfl | rfl <;> trivial
theorem take_ok (b : List UInt8) (left : Int) (n : Nat) (hn : n ≤ b.length) :
    FCm Try.prog 25 [.ptr 0 0 0, i64 n] (rdM b left) 1 (.sl none 1 (bytesR (b.take n))) (rdM (b.drop n) left) := by
  refine FCm_of_awp (fn := Try.f25) (c := bodyC Try.f25) Try.func25 rfl (of_decide_eq_true rfl) [2000001] rfl ?_
  conv => whnf
  rw [show decide ((n : Int) > ((bytesR b).length : Int)) = false from decide_eq_false (by rw [bytesR_len]; omega)]
  conv => whnf
  refine ⟨by omega, ?_⟩
  conv => whnf
  rw [Int.toNat_natCast]
  refine ⟨⟨Nat.zero_le _, by rw [bytesR_len]; exact hn⟩, ?_⟩
  conv => whnf
  refine ⟨by omega, ?_⟩
  conv => whnf
  rw [Int.toNat_natCast]
  refine ⟨⟨by rw [bytesR_len]; exact hn, Nat.le_refl _⟩, ?_⟩
  conv => whnf
  refine ⟨[(0, 0)], ⟨rfl, rfl, rfl⟩, .inl ?_, rd_keep _ _ ?_⟩
  · rw [List.drop_zero, Nat.sub_zero, bytesR_take]
  · show some (Blk.own 2 [[T.sl none 1 (List.take ((bytesR b).length - n) (List.drop n (bytesR b))), i64 left]]) = _
    rw [List.take_of_length_le (by rw [List.length_drop]; exact Nat.le_refl _), bytesR_drop]
theorem take_no (b : List UInt8) (left : Int) (n : Nat) (hn : b.length < n) :
    FCx Try.prog 25 [.ptr 0 0 0, i64 n] (rdM b left) 1 (flt 4) := by
  refine FCx_of_awp (fn := Try.f25) (c := bodyC Try.f25) Try.func25 rfl (of_decide_eq_true rfl) [2000001] rfl ?_
  conv => whnf
  rw [show decide ((n : Int) > ((bytesR b).length : Int)) = true from decide_eq_true (by rw [bytesR_len]; omega)]
  conv => whnf
  all_goals rfl

theorem shl8 (n : Nat) (c : UInt8) (h : n * 256 < 18446744073709551616) : bitsI .or .u64 (IntKind.u64.wrap ((n : Int) * 2 ^ min (Int.toNat 8) IntKind.u64.bits)) (IntKind.u64.wrap (c.toNat : Int)) = ((n * 256 + c.toNat : Nat) : Int) := by
  have hc := c.toNat_lt
  have e1 : IntKind.u64.wrap ((n : Int) * 2 ^ min (Int.toNat 8) IntKind.u64.bits) = ((n * 256 : Nat) : Int) := by
    have : (n : Int) * 2 ^ min (Int.toNat 8) IntKind.u64.bits = ((n * 256 : Nat) : Int) := by
      have h8 : (2 : Int) ^ min (Int.toNat 8) IntKind.u64.bits = 256 := by decide
      rw [h8]; omega
    rw [this, wrap_mod .u64 rfl, Nat.mod_eq_of_lt (by show _ < 18446744073709551616; omega)]
  have e2 : IntKind.u64.wrap (c.toNat : Int) = ((c.toNat : Nat) : Int) := by
    rw [wrap_mod .u64 rfl, Nat.mod_eq_of_lt (by show _ < 18446744073709551616; omega)]
  rw [e1, e2]
  have e3 : bitsI .or .u64 ((BitVec.ofNat 64 (n * 256)).toNat : Int) ((BitVec.ofNat 64 c.toNat).toNat : Int) = ((BitVec.ofNat 64 (n * 256) ||| BitVec.ofNat 64 c.toNat : BitVec 64).toNat : Int) := or_u .u64 rfl (BitVec.ofNat 64 (n * 256)) (BitVec.ofNat 64 c.toNat)
  rw [BitVec.toNat_or, BitVec.toNat_ofNat, BitVec.toNat_ofNat, Nat.mod_eq_of_lt (by omega), Nat.mod_eq_of_lt (by omega)] at e3
  have e4 : n * 256 ||| c.toNat = n * 256 + c.toNat := by
    have := Nat.two_pow_add_eq_or_of_lt (i := 8) (b := c.toNat) hc n
    rw [show (2 : Nat) ^ 8 * n = n * 256 by omega] at this
    exact this.symm
  rw [e4] at e3
  exact e3

theorem cnt_lt {b r : List UInt8} {n : Nat} (h : cnt b = some (n, r)) : n < 18446744073709551616 ∧ r.length < b.length := by
  unfold cnt at h
  split at h
  · cases h
  · rename_i k t
    split at h
    · cases h
    · rename_i h1
      split at h
      · cases h
      · cases h
        have h2 := numB_lt (t.take k.toNat)
        rw [List.length_take, Nat.min_eq_left (by omega)] at h2
        have h3 : (256 : Nat) ^ k.toNat ≤ 256 ^ 8 := Nat.pow_le_pow_right (by decide) (by omega)
        exact ⟨Nat.lt_of_lt_of_le h2 h3, by rw [List.length_drop, List.length_cons]; omega⟩
theorem count_ok (b r : List UInt8) (left : Int) (n : Nat) (h : cnt b = some (n, r)) :
    FCm Try.prog 26 [.ptr 0 0 0] (rdM b left) 1 (u64 n) (rdM r left) := by
  unfold cnt at h
  cases b with
  | nil => cases h
  | cons k t =>
    dsimp only at h
    split at h
    · cases h
    rename_i h1
    split at h
    · cases h
    rename_i h2
    cases h
    have hk8 : k.toNat ≤ 8 ∧ k.toNat ≤ t.length := by omega
    have t1 := take_ok (k :: t) left 1 (by simp)
    have t2 := take_ok t left k.toNat hk8.2
    generalize hL : t.take k.toNat = L at t2 h2 ⊢
    have hLl : L.length = k.toNat := by rw [← hL, List.length_take]; omega
    have hmax := numB_lt L
    refine FCm_of_awp (fn := Try.f26) (c := bodyC Try.f26) Try.func26 rfl (of_decide_eq_true rfl) [2000001, 1000000 + 25, 3000000 + 25] rfl ?_
    conv => whnf
    refine .inl ⟨[0], _, _, _, _, rdM t left, _, t1, ⟨rfl, ⟨rfl, trivial⟩, rfl, rfl, rd_in rfl, rfl, rfl, rd_out _ _ _⟩, ?_⟩
    conv => whnf
    refine ⟨by decide, nthK_intro (bytes_get (l := [k]) (i := 0) rfl) ?_⟩
    conv => whnf
    have hk : IntKind.i64.wrap (k.toNat : Int) = (k.toNat : Int) := wrap_i64 _ (by omega) (by omega)
    rw [hk]
    rw [show decide ((k.toNat : Int) > 8) = false from decide_eq_false (by omega)]
    conv => whnf
    refine .inl ⟨[0], _, _, _, _, rdM (t.drop k.toNat) left, _, t2, ⟨rfl, ⟨rfl, trivial⟩, rfl, rfl, rd_in rfl, rfl, rfl, rd_out _ _ _⟩, ?_⟩
    conv => whnf
    have hhead : 0 < k.toNat → ∃ c, L[0]? = some c ∧ c ≠ 0 := by
      intro hk0
      have h0 : 0 < L.length := by omega
      refine ⟨L[0], List.getElem?_eq_getElem h0, fun e => h2 ⟨hk0, ?_⟩⟩
      have h3 : L[0]? = t[0]? := by rw [← hL, List.getElem?_take, if_pos hk0]
      rw [List.head?_eq_getElem?, ← h3, List.getElem?_eq_getElem h0, e]
    refine br_intro (fun h => ?_) (fun h => ?_) <;> (rw [h]; conv => whnf)
    · obtain ⟨c, hc, hc0⟩ := hhead (by have := of_decide_eq_true h; omega)
      refine ⟨by decide, nthK_intro (bytes_get hc) ?_⟩
      conv => whnf
      rw [show ((c.toNat : Int) == 0) = false from beq_eq_false_iff_ne.2 (fun e => hc0 (UInt8.toNat_inj.1 (by have hz : c.toNat = 0 := (by omega); exact hz)))]
      conv => whnf
      refine loop_intro (fun i : Fin (L.length + 1) => ⟨[(0, .ptr 0 0 0), (5, u64 (numB (L.take i.1))), (30, .sl none 1 (bytesR L)), (31, i64 (L.length : Nat)), (32, i64 (i.1 : Nat))], rdM (t.drop k.toNat) left, 43, 3, [2000001, 1000000 + 25, 3000000 + 25]⟩) (fun i => L.length - i.1) 0 ?_ ?_
      · exact Wk.intro [] rfl (fun p hp => by cases hp) ⟨.same rfl (by exact rfl), .same rfl trivial, .same rfl trivial, .same (congrArg i64 (by rw [bytesR_len])) trivial, .same rfl trivial, trivial⟩ ⟨⟨rfl, .inl ⟨rfl, rd_lt _ _ _⟩⟩, trivial⟩
      rintro ⟨i, hi⟩
      dsimp only
      conv => whnf
      refine br_intro (fun h => ?_) (fun h => ?_) <;> (rw [h]; conv => whnf)
      · have hi2 : i < L.length := by have := of_decide_eq_true h; omega
        refine ⟨by omega, nthK_intro (bytes_get (List.getElem?_eq_getElem hi2)) ?_⟩
        conv => whnf
        refine ⟨by decide, ?_⟩
        conv => whnf
        refine Nx.intro ⟨i + 1, by omega⟩ (by dsimp only; omega) ?_
        refine Wk.intro [] rfl (fun p hp => by cases hp) ⟨.same rfl (by exact rfl), .same (congrArg (fun z => T.lit (.int .u64 z)) ?_) trivial, .same rfl trivial, .same rfl trivial, .same (congrArg i64 ?_) trivial, trivial⟩ ⟨⟨rfl, .inl ⟨rfl, rd_lt _ _ _⟩⟩, trivial⟩
        · have h5 := numB_lt (L.take i)
          rw [List.length_take, Nat.min_eq_left (by omega)] at h5
          have h6 : (256 : Nat) ^ i ≤ 256 ^ 7 := Nat.pow_le_pow_right (by decide) (by omega)
          refine (shl8 _ _ (by omega)).trans ?_
          rw [List.take_add_one, List.getElem?_eq_getElem hi2]
          exact congrArg Nat.cast (numB_snoc _ _).symm
        · rw [wrap_i64 _ (by omega) (by omega)]; rfl
      · have hi2 : i = L.length := by have := of_decide_eq_false h; omega
        refine ⟨[(0, 0)], ⟨rfl, rfl, rfl⟩, .inl ?_, rd_keep _ _ rfl⟩
        rw [hi2, List.take_length]
    · refine loop_intro (fun i : Fin (L.length + 1) => ⟨[(0, .ptr 0 0 0), (5, u64 (numB (L.take i.1))), (30, .sl none 1 (bytesR L)), (31, i64 (L.length : Nat)), (32, i64 (i.1 : Nat))], rdM (t.drop k.toNat) left, 43, 3, [2000001, 1000000 + 25, 3000000 + 25]⟩) (fun i => L.length - i.1) 0 ?_ ?_
      · exact Wk.intro [] rfl (fun p hp => by cases hp) ⟨.same rfl (by exact rfl), .same rfl trivial, .same rfl trivial, .same (congrArg i64 (by rw [bytesR_len])) trivial, .same rfl trivial, trivial⟩ ⟨⟨rfl, .inl ⟨rfl, rd_lt _ _ _⟩⟩, trivial⟩
      rintro ⟨i, hi⟩
      dsimp only
      conv => whnf
      refine br_intro (fun h => ?_) (fun h => ?_) <;> (rw [h]; conv => whnf)
      · have hi2 : i < L.length := by have := of_decide_eq_true h; omega
        refine ⟨by omega, nthK_intro (bytes_get (List.getElem?_eq_getElem hi2)) ?_⟩
        conv => whnf
        refine ⟨by decide, ?_⟩
        conv => whnf
        refine Nx.intro ⟨i + 1, by omega⟩ (by dsimp only; omega) ?_
        refine Wk.intro [] rfl (fun p hp => by cases hp) ⟨.same rfl (by exact rfl), .same (congrArg (fun z => T.lit (.int .u64 z)) ?_) trivial, .same rfl trivial, .same rfl trivial, .same (congrArg i64 ?_) trivial, trivial⟩ ⟨⟨rfl, .inl ⟨rfl, rd_lt _ _ _⟩⟩, trivial⟩
        · have h5 := numB_lt (L.take i)
          rw [List.length_take, Nat.min_eq_left (by omega)] at h5
          have h6 : (256 : Nat) ^ i ≤ 256 ^ 7 := Nat.pow_le_pow_right (by decide) (by omega)
          refine (shl8 _ _ (by omega)).trans ?_
          rw [List.take_add_one, List.getElem?_eq_getElem hi2]
          exact congrArg Nat.cast (numB_snoc _ _).symm
        · rw [wrap_i64 _ (by omega) (by omega)]; rfl
      · have hi2 : i = L.length := by have := of_decide_eq_false h; omega
        refine ⟨[(0, 0)], ⟨rfl, rfl, rfl⟩, .inl ?_, rd_keep _ _ rfl⟩
        rw [hi2, List.take_length]


theorem count_no (b : List UInt8) (left : Int) (h : cnt b = none) : FCx Try.prog 26 [.ptr 0 0 0] (rdM b left) 1 (flt 4) := by
  refine FCx_of_awp (fn := Try.f26) (c := bodyC Try.f26) Try.func26 rfl (of_decide_eq_true rfl) [2000001, 1000000 + 25, 3000000 + 25] rfl ?_
  conv => whnf
  cases b with
  | nil =>
    refine .inr ⟨[0], _, _, _, take_no [] left 1 (by simp), ⟨rfl, ⟨rfl, trivial⟩, rfl, rfl, rd_in rfl⟩, ?_⟩
    conv => whnf
    all_goals rfl
  | cons k t =>
    refine .inl ⟨[0], _, _, _, _, rdM t left, _, take_ok (k :: t) left 1 (by simp), ⟨rfl, ⟨rfl, trivial⟩, rfl, rfl, rd_in rfl, rfl, rfl, rd_out _ _ _⟩, ?_⟩
    conv => whnf
    refine ⟨by decide, nthK_intro (bytes_get (l := [k]) (i := 0) rfl) ?_⟩
    conv => whnf
    have hk : IntKind.i64.wrap (k.toNat : Int) = (k.toNat : Int) := wrap_i64 _ (by omega) (by have := k.toNat_lt; omega)
    rw [hk]
    refine br_intro (fun h8 => ?_) (fun h8 => ?_) <;> (rw [h8]; conv => whnf)
    · rfl
    have h8 := of_decide_eq_false h8
    by_cases hl : k.toNat > t.length
    · refine .inr ⟨[0], _, _, _, take_no t left k.toNat hl, ⟨rfl, ⟨rfl, trivial⟩, rfl, rfl, rd_in rfl⟩, ?_⟩
      conv => whnf
      all_goals rfl
    · have t2 := take_ok t left k.toNat (by omega)
      unfold cnt at h
      dsimp only at h
      rw [if_neg (by omega)] at h
      split at h
      · rename_i h2
        obtain ⟨u, hu⟩ : ∃ u, t = 0 :: u := by
          cases t with
          | nil => simp at h2
          | cons x u => simp at h2; exact ⟨u, by rw [h2.2]⟩
        generalize hL : t.take k.toNat = L at t2
        have h0 : L[0]? = some 0 := by rw [← hL, List.getElem?_take, if_pos h2.1, hu]; rfl
        refine .inl ⟨[0], _, _, _, _, rdM (t.drop k.toNat) left, _, t2, ⟨rfl, ⟨rfl, trivial⟩, rfl, rfl, rd_in rfl, rfl, rfl, rd_out _ _ _⟩, ?_⟩
        conv => whnf
        rw [show decide ((k.toNat : Int) > 0) = true from decide_eq_true (by omega)]
        conv => whnf
        refine ⟨by decide, nthK_intro (bytes_get h0) ?_⟩
        conv => whnf
        all_goals rfl
      · cases h

theorem siz_lt {most : Nat} {b r : List UInt8} {n : Nat} (h : siz most b = some (n, r)) : n ≤ most ∧ r.length < b.length ∧ cnt b = some (n, r) := by
  unfold siz at h
  split at h
  · cases h
  · rename_i n' r' hc
    split at h
    · cases h
    · cases h
      exact ⟨by omega, (cnt_lt hc).2, hc⟩
theorem size_ok (b r : List UInt8) (left : Int) (most n : Nat) (hm : most ≤ 1000000) (h : siz most b = some (n, r)) :
    FCm Try.prog 27 [.ptr 0 0 0, i64 most] (rdM b left) 1 (i64 n) (rdM r left) := by
  obtain ⟨h1, h2, h3⟩ := siz_lt h
  refine FCm_of_awp (fn := Try.f27) (c := bodyC Try.f27) Try.func27 rfl (of_decide_eq_true rfl) [2000001, 1000000 + 26, 3000000 + 26] rfl ?_
  conv => whnf
  refine .inl ⟨[0], _, _, _, _, rdM r left, _, count_ok b r left n h3, ⟨rfl, ⟨rfl, trivial⟩, rfl, rfl, rd_in rfl, rfl, rfl, rd_out _ _ _⟩, ?_⟩
  conv => whnf
  rw [show IntKind.u64.wrap (most : Int) = (most : Int) by rw [wrap_mod .u64 rfl, Nat.mod_eq_of_lt (by show _ < 18446744073709551616; omega)]]
  rw [show decide ((n : Int) > (most : Int)) = false from decide_eq_false (by omega)]
  conv => whnf
  refine ⟨[(0, 0)], ⟨rfl, rfl, rfl⟩, .inl (congrArg i64 (wrap_i64 _ (by omega) (by omega))), rd_keep _ _ rfl⟩
theorem size_no (b : List UInt8) (left : Int) (most : Nat) (hm : most ≤ 1000000) (h : siz most b = none) :
    FCx Try.prog 27 [.ptr 0 0 0, i64 most] (rdM b left) 1 (flt 4) := by
  refine FCx_of_awp (fn := Try.f27) (c := bodyC Try.f27) Try.func27 rfl (of_decide_eq_true rfl) [2000001, 1000000 + 26, 3000000 + 26] rfl ?_
  conv => whnf
  cases hc : cnt b with
  | none =>
    refine .inr ⟨[0], _, _, _, count_no b left hc, ⟨rfl, ⟨rfl, trivial⟩, rfl, rfl, rd_in rfl⟩, ?_⟩
    conv => whnf
    all_goals rfl
  | some p =>
    obtain ⟨n, r⟩ := p
    unfold siz at h
    rw [hc] at h
    dsimp only at h
    split at h
    · rename_i hn
      refine .inl ⟨[0], _, _, _, _, rdM r left, _, count_ok b r left n hc, ⟨rfl, ⟨rfl, trivial⟩, rfl, rfl, rd_in rfl, rfl, rfl, rd_out _ _ _⟩, ?_⟩
      conv => whnf
      rw [show IntKind.u64.wrap (most : Int) = (most : Int) by rw [wrap_mod .u64 rfl, Nat.mod_eq_of_lt (by show _ < 18446744073709551616; omega)]]
      rw [show decide ((n : Int) > (most : Int)) = true from decide_eq_true (by omega)]
      conv => whnf
      all_goals rfl
    · cases h

end Go.AW.Wir
