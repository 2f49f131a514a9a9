import Derived.Test.YtagligpagpaceaaWirW14
import Derived.Test.YtagligpagpaceaaP9
/- The wire: the reference's reader, walked: bytes and counts. -/
set_option linter.unusedVariables false
set_option linter.unusedSimpArgs false
namespace Go.AW.Wir
open Go Go.AW Go.Proofs
set_option maxRecDepth 10000
set_option pp.maxSteps 60

/-- The reference's reader's memory. -/
def rrB (b : List UInt8) (a : Nat) (left : Int) (bad : Bool) : Blk := .own 4 [[.sl none 1 (bytesR b), i64 (a : Int), i64 left, tb bad]]
abbrev rrM (b : List UInt8) (a : Nat) (left : Int) (bad : Bool) : Mem := [(0, .own 4 [[.sl none 1 (bytesR b), i64 (a : Int), i64 left, tb bad]])]
theorem rr_dom (σ : List (Nat × Nat)) (b : List UInt8) (a left : Int) (bad : Bool) : domB σ (.own 4 [[.sl none 1 (bytesR b), i64 a, i64 left, tb bad]]) := by
  intro row hr c hc
  obtain rfl := List.mem_singleton.1 hr
  simp only [List.mem_cons, List.mem_nil_iff, or_false] at hc
  rcases hc with rfl | rfl | rfl | rfl <;> rfl
theorem rr_lt (x : Nat) (b : List UInt8) (a left : Int) (bad : Bool) : blkLt x (.own 4 [[.sl none 1 (bytesR b), i64 a, i64 left, tb bad]]) := by
  intro row hr c hc
  obtain rfl := List.mem_singleton.1 hr
  simp only [List.mem_cons, List.mem_nil_iff, or_false] at hc
  rcases hc with rfl | rfl | rfl | rfl <;> trivial
theorem rr_in {j : Nat} {m : Mem} {b : List UInt8} {a : Nat} {left : Int} {bad : Bool} (h : m.get j = some (.own 4 [[.sl none 1 (bytesR b), i64 (a : Int), i64 left, tb bad]])) : memIn (asIn [j] 0) m (rrM b a left bad) :=
  ⟨⟨rfl, h, rr_dom _ b a left bad⟩, trivial⟩
theorem rr_out (j id : Nat) (b : List UInt8) (a : Nat) (left : Int) (bad : Bool) : memOut (asIn ([j] ++ [id]) 0) (rrM b a left bad) [(j, .own 4 [[.sl none 1 (bytesR b), i64 (a : Int), i64 left, tb bad]])] :=
  ⟨⟨rfl, rfl, rfl, rr_dom _ b a left bad⟩, trivial⟩
theorem rr_keep (b : List UInt8) (a : Nat) (left : Int) (bad : Bool) {m : Mem} (h : m.get 0 = some (.own 4 [[.sl none 1 (bytesR b), i64 (a : Int), i64 left, tb bad]])) : memKeep [(0, 0)] m (rrM b a left bad) :=
  ⟨⟨0, _, rfl, rfl, h, rfl, rr_dom _ b a left bad⟩, trivial⟩

theorem byte_law (b : List UInt8) (hb : b.length ≤ 140737488351232) (a : Nat) (ha : a ≤ b.length) (left : Int) (bad : Bool) :
    FCm Try.prog 28 [.ptr 0 0 0] (rrM b a left bad) 1 (i64 ((rbyte b a bad).1 : Nat)) (rrM b (rbyte b a bad).2.1 left (rbyte b a bad).2.2) := by
  refine FCm_of_awp (fn := Try.f28) (c := bodyC Try.f28) Try.func28 rfl (of_decide_eq_true rfl) [2000001] rfl ?_
  conv => whnf
  cases bad with
  | true =>
    conv => whnf
    exact ⟨[(0, 0)], ⟨rfl, rfl, rfl⟩, .inl rfl, rr_keep _ _ _ _ rfl⟩
  | false =>
    conv => whnf
    rw [bytesR_len]
    refine br_intro (fun h => ?_) (fun h => ?_) <;> (rw [h]; conv => whnf)
    · have h1 := of_decide_eq_true h
      rw [rbyte_no (by omega)]
      exact ⟨[(0, 0)], ⟨rfl, rfl, rfl⟩, .inl rfl, rr_keep _ _ _ _ rfl⟩
    · have h1 := of_decide_eq_false h
      have hlt : a < b.length := by omega
      rw [rbyte_ok (List.getElem?_eq_getElem hlt)]
      rw [wrap_i64 ((a : Int) + 1) (by omega) (by omega), wrap_i64 ((a : Int) + 1 - 1) (by omega) (by omega)]
      refine ⟨by omega, nthK_intro (bytes_get (i := ((a : Int) + 1 - 1).toNat) (c := b[a]) (by rw [show ((a : Int) + 1 - 1).toNat = a by omega]; exact List.getElem?_eq_getElem hlt)) ?_⟩
      conv => whnf
      rw [wrap_i64 ((b[a]).toNat : Int) (by omega) (by have := (b[a]).toNat_lt; omega)]
      exact ⟨[(0, 0)], ⟨rfl, rfl, rfl⟩, .inl rfl, rr_keep _ _ _ _ rfl⟩

abbrev RLC : List Nat := [2000001, 1000000 + 28]
theorem wrap_u64m (n : Int) : IntKind.u64.wrap n = n % 18446744073709551616 := by
  have e1 : (2 : Int) ^ IntKind.u64.bits = 18446744073709551616 := by decide
  simp only [IntKind.wrap, e1, show IntKind.u64.signed = false from rfl, Bool.false_and]
  rfl
theorem count_law (b : List UInt8) (hb : b.length ≤ 140737488351232) (a : Nat) (ha : a ≤ b.length) (left : Int) (bad : Bool) :
    FCm Try.prog 29 [.ptr 0 0 0] (rrM b a left bad) 1 (u64 (rcount b a bad).1) (rrM b (rcount b a bad).2.1 left (rcount b a bad).2.2) := by
  have h1 := byte_law b hb a ha left bad
  have hr := rbyte_rng b a bad ha
  unfold rcount
  obtain ⟨⟨k, a1, bad1⟩, hp⟩ : ∃ p, rbyte b a bad = p := ⟨_, rfl⟩
  rw [hp] at h1 hr ⊢
  dsimp only at h1 hr ⊢
  obtain ⟨⟨N, A, B⟩, hR⟩ : ∃ p, rcl b k k 0 0 a1 bad1 = p := ⟨_, rfl⟩
  rw [hR]
  dsimp only
  refine FCm_of_awp (fn := Try.f29) (c := bodyC Try.f29) Try.func29 rfl (of_decide_eq_true rfl) RLC rfl ?_
  conv => whnf
  refine ⟨[0], _, _, _, _, rrM b a1 left bad1, _, h1, ⟨rfl, ⟨rfl, trivial⟩, rfl, rfl, rr_in rfl, rfl, rfl, rr_out _ _ _ _ _ _⟩, ?_⟩
  conv => whnf
  refine loop_intro (fun y : { p : Nat × Nat × Nat × Bool // p.1 ≤ k ∧ p.2.1 < 18446744073709551616 ∧ p.2.2.1 ≤ b.length ∧ rcl b k (k - p.1) p.1 p.2.1 p.2.2.1 p.2.2.2 = (N, A, B) } =>
    ⟨[(0, .ptr 0 0 0), (3, i64 (k : Nat)), (4, u64 y.1.2.1), (5, i64 (y.1.1 : Nat))], rrM b y.1.2.2.1 left y.1.2.2.2, 42, 2, RLC⟩) (fun y => k - y.1.1) ⟨(0, 0, a1, bad1), Nat.zero_le _, by dsimp only; omega, hr.2.2, hR⟩ ?_ ?_
  · exact Wk.intro [] rfl (fun p hp => by cases hp) ⟨.same rfl (by exact rfl), .same rfl trivial, .same rfl trivial, .same rfl trivial, trivial⟩ ⟨⟨rfl, .inl ⟨rfl, rr_lt _ _ _ _ _⟩⟩, trivial⟩
  rintro ⟨⟨j, n, a', bad'⟩, g1, g2, g3, g4⟩
  dsimp only at g1 g2 g3 g4 ⊢
  conv => whnf
  refine br_intro (fun h => ?_) (fun h => ?_) <;> (rw [h]; conv => whnf)
  · have hj : j < k := by have := of_decide_eq_true h; omega
    obtain ⟨d, hd⟩ : ∃ d, k - j = d + 1 := ⟨k - j - 1, by omega⟩
    rw [hd] at g4
    cases bad' with
    | true =>
      conv => whnf
      rw [rcl_bad] at g4
      cases g4
      exact ⟨[(0, 0)], ⟨rfl, rfl, rfl⟩, .inl rfl, rr_keep _ _ _ _ rfl⟩
    | false =>
      conv => whnf
      rw [rcl_succ] at g4
      have h2 := byte_law b hb a' g3 left false
      have hr2 := rbyte_rng b a' false g3
      obtain ⟨⟨c, a2, bad2⟩, hq⟩ : ∃ p, rbyte b a' false = p := ⟨_, rfl⟩
      rw [hq] at h2 hr2 g4
      dsimp only at h2 hr2 g4
      refine ⟨[0], _, _, _, _, rrM b a2 left bad2, _, h2, ⟨rfl, ⟨rfl, trivial⟩, rfl, rfl, rr_in rfl, rfl, rfl, rr_out _ _ _ _ _ _⟩, ?_⟩
      conv => whnf
      have hfold : IntKind.u64.wrap (IntKind.u64.wrap ((n : Int) * 256) + IntKind.u64.wrap (c : Int)) = (((n * 256 + c) % 18446744073709551616 : Nat) : Int) := by
        simp only [wrap_u64m]
        omega
      by_cases h0 : (j : Int) = 0
      · rw [bq h0]
        conv => whnf
        by_cases hc0 : (c : Int) = 0
        · rw [bq hc0]
          conv => whnf
          rw [if_pos (.inl ⟨by omega, by omega⟩)] at g4
          refine Nx.intro ⟨(j + 1, (n * 256 + c) % 18446744073709551616, a2, true), hj, Nat.mod_lt _ (by decide), hr2.2.2, (by dsimp only; rw [show k - (j + 1) = d by omega]; exact g4)⟩ (by dsimp only; omega) ?_
          exact Wk.intro [] rfl (fun p hp => by cases hp) ⟨.same rfl (by exact rfl), .same rfl trivial, .same (congrArg (fun z => T.lit (.int .u64 z)) hfold) trivial, .same (congrArg i64 (by rw [wrap_i64 _ (by omega) (by omega)]; rfl)) trivial, trivial⟩ ⟨⟨rfl, .inl ⟨rfl, rr_lt _ _ _ _ _⟩⟩, trivial⟩
        · rw [bn hc0]
          conv => whnf
          refine br_intro (fun h8 => ?_) (fun h8 => ?_) <;> (rw [h8]; conv => whnf)
          · have h8 := of_decide_eq_true h8
            rw [if_pos (.inr (by omega))] at g4
            refine Nx.intro ⟨(j + 1, (n * 256 + c) % 18446744073709551616, a2, true), hj, Nat.mod_lt _ (by decide), hr2.2.2, (by dsimp only; rw [show k - (j + 1) = d by omega]; exact g4)⟩ (by dsimp only; omega) ?_
            exact Wk.intro [] rfl (fun p hp => by cases hp) ⟨.same rfl (by exact rfl), .same rfl trivial, .same (congrArg (fun z => T.lit (.int .u64 z)) hfold) trivial, .same (congrArg i64 (by rw [wrap_i64 _ (by omega) (by omega)]; rfl)) trivial, trivial⟩ ⟨⟨rfl, .inl ⟨rfl, rr_lt _ _ _ _ _⟩⟩, trivial⟩
          · have h8 := of_decide_eq_false h8
            rw [if_neg (by omega)] at g4
            refine Nx.intro ⟨(j + 1, (n * 256 + c) % 18446744073709551616, a2, bad2), hj, Nat.mod_lt _ (by decide), hr2.2.2, (by dsimp only; rw [show k - (j + 1) = d by omega]; exact g4)⟩ (by dsimp only; omega) ?_
            exact Wk.intro [] rfl (fun p hp => by cases hp) ⟨.same rfl (by exact rfl), .same rfl trivial, .same (congrArg (fun z => T.lit (.int .u64 z)) hfold) trivial, .same (congrArg i64 (by rw [wrap_i64 _ (by omega) (by omega)]; rfl)) trivial, trivial⟩ ⟨⟨rfl, .inl ⟨rfl, rr_lt _ _ _ _ _⟩⟩, trivial⟩
      · rw [bn h0]
        conv => whnf
        refine br_intro (fun h8 => ?_) (fun h8 => ?_) <;> (rw [h8]; conv => whnf)
        · have h8 := of_decide_eq_true h8
          rw [if_pos (.inr (by omega))] at g4
          refine Nx.intro ⟨(j + 1, (n * 256 + c) % 18446744073709551616, a2, true), hj, Nat.mod_lt _ (by decide), hr2.2.2, (by dsimp only; rw [show k - (j + 1) = d by omega]; exact g4)⟩ (by dsimp only; omega) ?_
          exact Wk.intro [] rfl (fun p hp => by cases hp) ⟨.same rfl (by exact rfl), .same rfl trivial, .same (congrArg (fun z => T.lit (.int .u64 z)) hfold) trivial, .same (congrArg i64 (by rw [wrap_i64 _ (by omega) (by omega)]; rfl)) trivial, trivial⟩ ⟨⟨rfl, .inl ⟨rfl, rr_lt _ _ _ _ _⟩⟩, trivial⟩
        · have h8 := of_decide_eq_false h8
          rw [if_neg (by omega)] at g4
          refine Nx.intro ⟨(j + 1, (n * 256 + c) % 18446744073709551616, a2, bad2), hj, Nat.mod_lt _ (by decide), hr2.2.2, (by dsimp only; rw [show k - (j + 1) = d by omega]; exact g4)⟩ (by dsimp only; omega) ?_
          exact Wk.intro [] rfl (fun p hp => by cases hp) ⟨.same rfl (by exact rfl), .same rfl trivial, .same (congrArg (fun z => T.lit (.int .u64 z)) hfold) trivial, .same (congrArg i64 (by rw [wrap_i64 _ (by omega) (by omega)]; rfl)) trivial, trivial⟩ ⟨⟨rfl, .inl ⟨rfl, rr_lt _ _ _ _ _⟩⟩, trivial⟩
  · have hj : j = k := by have := of_decide_eq_false h; omega
    subst hj
    rw [Nat.sub_self, rcl] at g4
    cases g4
    exact ⟨[(0, 0)], ⟨rfl, rfl, rfl⟩, .inl rfl, rr_keep _ _ _ _ rfl⟩
end Go.AW.Wir
