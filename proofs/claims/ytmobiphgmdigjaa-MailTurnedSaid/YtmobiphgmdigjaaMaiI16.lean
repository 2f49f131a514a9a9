import Derived.Test.YtmobiphgmdigjaaMaiI7
import Derived.Test.YtmobiphgmdigjaaWirP1
/- The wire: the reference's reader, walked: bytes and counts. -/
set_option linter.unusedVariables false
set_option linter.unusedSimpArgs false
namespace Go.AW.Wir
open Go Go.AW Go.Proofs
set_option maxRecDepth 10000
set_option pp.maxSteps 60

/-- The reference's reader's memory. -/
def rrB (b : List UInt8) (a : Nat) (left : Int) (bad : Bool) : Blk := .own 4 [[.sl none 1 (bytesR b), i64 (a : Int), i64 left, tb bad]]
abbrev rrM (b : List UInt8) (a : Nat) (left : Int) (bad : Bool) : Mem := [(0, .own 4 [[.sl none 1 (bytesR b), i64 (a : Int), i64 left, tb bad]])]
theorem rr_dom (σ : List (Nat × Nat)) (b : List UInt8) (a left : Int) (bad : Bool) : domB σ (.own 4 [[.sl none 1 (bytesR b), i64 a, i64 left, tb bad]]) := by
  intro row hr c hc
  obtain rfl := List.mem_singleton.1 hr
  simp only [List.mem_cons, List.mem_nil_iff, or_false] at hc
  rcases hc with rfl | rfl | rfl | rfl <;> rfl
theorem rr_lt (x : Nat) (b : List UInt8) (a left : Int) (bad : Bool) : blkLt x (.own 4 [[.sl none 1 (bytesR b), i64 a, i64 left, tb bad]]) := by
  intro row hr c hc
  obtain rfl := List.mem_singleton.1 hr
  simp only [List.mem_cons, List.mem_nil_iff, or_false] at hc
  rcases hc with rfl | rfl | rfl | rfl <;> trivial
theorem rr_in {j : Nat} {m : Mem} {b : List UInt8} {a : Nat} {left : Int} {bad : Bool} (h : m.get j = some (.own 4 [[.sl none 1 (bytesR b), i64 (a : Int), i64 left, tb bad]])) : memIn (asIn [j] 0) m (rrM b a left bad) :=
  ⟨⟨rfl, h, rr_dom _ b a left bad⟩, trivial⟩
theorem rr_out (j id : Nat) (b : List UInt8) (a : Nat) (left : Int) (bad : Bool) : memOut (asIn ([j] ++ [id]) 0) (rrM b a left bad) [(j, .own 4 [[.sl none 1 (bytesR b), i64 (a : Int), i64 left, tb bad]])] :=
  ⟨⟨rfl, rfl, rfl, rr_dom _ b a left bad⟩, trivial⟩
theorem rr_keep (b : List UInt8) (a : Nat) (left : Int) (bad : Bool) {m : Mem} (h : m.get 0 = some (.own 4 [[.sl none 1 (bytesR b), i64 (a : Int), i64 left, tb bad]])) : memKeep [(0, 0)] m (rrM b a left bad) :=
  ⟨⟨0, _, rfl, rfl, h, rfl, rr_dom _ b a left bad⟩, trivial⟩

theorem byte_law (b : List UInt8) (hb : b.length ≤ 140737488351232) (a : Nat) (ha : a ≤ b.length) (left : Int) (bad : Bool) :
    FCm Try.prog 69 [.ptr 0 0 0] (rrM b a left bad) 1 (i64 ((rbyte b a bad).1 : Nat)) (rrM b (rbyte b a bad).2.1 left (rbyte b a bad).2.2) := by
  refine FCm_of_awp (fn := Try.f69) (c := bodyC Try.f69) Try.func69 rfl (of_decide_eq_true rfl) [2000001] rfl ?_
  conv => whnf
  cases bad with
  | true =>
    conv => whnf
    exact ⟨[(0, 0)], ⟨rfl, rfl, rfl⟩, .inl rfl, rr_keep _ _ _ _ rfl⟩
  | false =>
    conv => whnf
    rw [bytesR_len]
    refine br_intro (fun h => ?_) (fun h => ?_) <;> (rw [h]; conv => whnf)
    · have h1 := of_decide_eq_true h
      rw [rbyte_no (by omega)]
      exact ⟨[(0, 0)], ⟨rfl, rfl, rfl⟩, .inl rfl, rr_keep _ _ _ _ rfl⟩
    · have h1 := of_decide_eq_false h
      have hlt : a < b.length := by omega
      rw [rbyte_ok (List.getElem?_eq_getElem hlt)]
      rw [wrap_i64 ((a : Int) + 1) (by omega) (by omega), wrap_i64 ((a : Int) + 1 - 1) (by omega) (by omega)]
      refine ⟨by omega, nthK_intro (bytes_get (i := ((a : Int) + 1 - 1).toNat) (c := b[a]) (by rw [show ((a : Int) + 1 - 1).toNat = a by omega]; exact List.getElem?_eq_getElem hlt)) ?_⟩
      conv => whnf
      rw [wrap_i64 ((b[a]).toNat : Int) (by omega) (by have := (b[a]).toNat_lt; omega)]
      exact ⟨[(0, 0)], ⟨rfl, rfl, rfl⟩, .inl rfl, rr_keep _ _ _ _ rfl⟩

abbrev RLC : List Nat := [2000001, 1000000 + 69]
theorem wrap_u64m (n : Int) : IntKind.u64.wrap n = n % 18446744073709551616 := by
  have e1 : (2 : Int) ^ IntKind.u64.bits = 18446744073709551616 := by decide
  simp only [IntKind.wrap, e1, show IntKind.u64.signed = false from rfl, Bool.false_and]
  rfl
theorem count_law (b : List UInt8) (hb : b.length ≤ 140737488351232) (a : Nat) (ha : a ≤ b.length) (left : Int) (bad : Bool) :
    FCm Try.prog 70 [.ptr 0 0 0] (rrM b a left bad) 1 (u64 (rcount b a bad).1) (rrM b (rcount b a bad).2.1 left (rcount b a bad).2.2) := by
  have h1 := byte_law b hb a ha left bad
  have hr := rbyte_rng b a bad ha
  unfold rcount
  obtain ⟨⟨k, a1, bad1⟩, hp⟩ : ∃ p, rbyte b a bad = p := ⟨_, rfl⟩
  rw [hp] at h1 hr ⊢
  dsimp only at h1 hr ⊢
  obtain ⟨⟨N, A, B⟩, hR⟩ : ∃ p, rcl b k k 0 0 a1 bad1 = p := ⟨_, rfl⟩
  rw [hR]
  dsimp only
  refine FCm_of_awp (fn := Try.f70) (c := bodyC Try.f70) Try.func70 rfl (of_decide_eq_true rfl) RLC rfl ?_
  conv => whnf
  refine ⟨[0], _, _, _, _, rrM b a1 left bad1, _, h1, ⟨rfl, ⟨rfl, trivial⟩, rfl, rfl, rr_in rfl, rfl, rfl, rr_out _ _ _ _ _ _⟩, ?_⟩
  conv => whnf
  refine loop_intro (fun y : { p : Nat × Nat × Nat × Bool // p.1 ≤ k ∧ p.2.1 < 18446744073709551616 ∧ p.2.2.1 ≤ b.length ∧ rcl b k (k - p.1) p.1 p.2.1 p.2.2.1 p.2.2.2 = (N, A, B) } =>
    ⟨[(0, .ptr 0 0 0), (3, i64 (k : Nat)), (4, u64 y.1.2.1), (5, i64 (y.1.1 : Nat))], rrM b y.1.2.2.1 left y.1.2.2.2, 42, 2, RLC⟩) (fun y => k - y.1.1) ⟨(0, 0, a1, bad1), Nat.zero_le _, by dsimp only; omega, hr.2.2, hR⟩ ?_ ?_
  · exact Wk.intro [] rfl (fun p hp => by cases hp) ⟨.same rfl (by exact rfl), .same rfl trivial, .same rfl trivial, .same rfl trivial, trivial⟩ ⟨⟨rfl, .inl ⟨rfl, rr_lt _ _ _ _ _⟩⟩, trivial⟩
  rintro ⟨⟨j, n, a', bad'⟩, g1, g2, g3, g4⟩
  dsimp only at g1 g2 g3 g4 ⊢
  conv => whnf
  refine br_intro (fun h => ?_) (fun h => ?_) <;> (rw [h]; conv => whnf)
  · have hj : j < k := by have := of_decide_eq_true h; omega
    obtain ⟨d, hd⟩ : ∃ d, k - j = d + 1 := ⟨k - j - 1, by omega⟩
    rw [hd] at g4
    cases bad' with
    | true =>
      conv => whnf
      rw [rcl_bad] at g4
      cases g4
      exact ⟨[(0, 0)], ⟨rfl, rfl, rfl⟩, .inl rfl, rr_keep _ _ _ _ rfl⟩
    | false =>
      conv => whnf
      rw [rcl_succ] at g4
      have h2 := byte_law b hb a' g3 left false
      have hr2 := rbyte_rng b a' false g3
      obtain ⟨⟨c, a2, bad2⟩, hq⟩ : ∃ p, rbyte b a' false = p := ⟨_, rfl⟩
      rw [hq] at h2 hr2 g4
      dsimp only at h2 hr2 g4
      refine ⟨[0], _, _, _, _, rrM b a2 left bad2, _, h2, ⟨rfl, ⟨rfl, trivial⟩, rfl, rfl, rr_in rfl, rfl, rfl, rr_out _ _ _ _ _ _⟩, ?_⟩
      conv => whnf
      have hfold : IntKind.u64.wrap (IntKind.u64.wrap ((n : Int) * 256) + IntKind.u64.wrap (c : Int)) = (((n * 256 + c) % 18446744073709551616 : Nat) : Int) := by
        simp only [wrap_u64m]
        omega
      by_cases h0 : (j : Int) = 0
      · rw [bq h0]
        conv => whnf
        by_cases hc0 : (c : Int) = 0
        · rw [bq hc0]
          conv => whnf
          rw [if_pos (.inl ⟨by omega, by omega⟩)] at g4
          refine Nx.intro ⟨(j + 1, (n * 256 + c) % 18446744073709551616, a2, true), hj, Nat.mod_lt _ (by decide), hr2.2.2, (by dsimp only; rw [show k - (j + 1) = d by omega]; exact g4)⟩ (by dsimp only; omega) ?_
          exact Wk.intro [] rfl (fun p hp => by cases hp) ⟨.same rfl (by exact rfl), .same rfl trivial, .same (congrArg (fun z => T.lit (.int .u64 z)) hfold) trivial, .same (congrArg i64 (by rw [wrap_i64 _ (by omega) (by omega)]; rfl)) trivial, trivial⟩ ⟨⟨rfl, .inl ⟨rfl, rr_lt _ _ _ _ _⟩⟩, trivial⟩
        · rw [bn hc0]
          conv => whnf
          refine br_intro (fun h8 => ?_) (fun h8 => ?_) <;> (rw [h8]; conv => whnf)
          · have h8 := of_decide_eq_true h8
            rw [if_pos (.inr (by omega))] at g4
            refine Nx.intro ⟨(j + 1, (n * 256 + c) % 18446744073709551616, a2, true), hj, Nat.mod_lt _ (by decide), hr2.2.2, (by dsimp only; rw [show k - (j + 1) = d by omega]; exact g4)⟩ (by dsimp only; omega) ?_
            exact Wk.intro [] rfl (fun p hp => by cases hp) ⟨.same rfl (by exact rfl), .same rfl trivial, .same (congrArg (fun z => T.lit (.int .u64 z)) hfold) trivial, .same (congrArg i64 (by rw [wrap_i64 _ (by omega) (by omega)]; rfl)) trivial, trivial⟩ ⟨⟨rfl, .inl ⟨rfl, rr_lt _ _ _ _ _⟩⟩, trivial⟩
          · have h8 := of_decide_eq_false h8
            rw [if_neg (by omega)] at g4
            refine Nx.intro ⟨(j + 1, (n * 256 + c) % 18446744073709551616, a2, bad2), hj, Nat.mod_lt _ (by decide), hr2.2.2, (by dsimp only; rw [show k - (j + 1) = d by omega]; exact g4)⟩ (by dsimp only; omega) ?_
            exact Wk.intro [] rfl (fun p hp => by cases hp) ⟨.same rfl (by exact rfl), .same rfl trivial, .same (congrArg (fun z => T.lit (.int .u64 z)) hfold) trivial, .same (congrArg i64 (by rw [wrap_i64 _ (by omega) (by omega)]; rfl)) trivial, trivial⟩ ⟨⟨rfl, .inl ⟨rfl, rr_lt _ _ _ _ _⟩⟩, trivial⟩
      · rw [bn h0]
        conv => whnf
        refine br_intro (fun h8 => ?_) (fun h8 => ?_) <;> (rw [h8]; conv => whnf)
        · have h8 := of_decide_eq_true h8
          rw [if_pos (.inr (by omega))] at g4
          refine Nx.intro ⟨(j + 1, (n * 256 + c) % 18446744073709551616, a2, true), hj, Nat.mod_lt _ (by decide), hr2.2.2, (by dsimp only; rw [show k - (j + 1) = d by omega]; exact g4)⟩ (by dsimp only; omega) ?_
          exact Wk.intro [] rfl (fun p hp => by cases hp) ⟨.same rfl (by exact rfl), .same rfl trivial, .same (congrArg (fun z => T.lit (.int .u64 z)) hfold) trivial, .same (congrArg i64 (by rw [wrap_i64 _ (by omega) (by omega)]; rfl)) trivial, trivial⟩ ⟨⟨rfl, .inl ⟨rfl, rr_lt _ _ _ _ _⟩⟩, trivial⟩
        · have h8 := of_decide_eq_false h8
          rw [if_neg (by omega)] at g4
          refine Nx.intro ⟨(j + 1, (n * 256 + c) % 18446744073709551616, a2, bad2), hj, Nat.mod_lt _ (by decide), hr2.2.2, (by dsimp only; rw [show k - (j + 1) = d by omega]; exact g4)⟩ (by dsimp only; omega) ?_
          exact Wk.intro [] rfl (fun p hp => by cases hp) ⟨.same rfl (by exact rfl), .same rfl trivial, .same (congrArg (fun z => T.lit (.int .u64 z)) hfold) trivial, .same (congrArg i64 (by rw [wrap_i64 _ (by omega) (by omega)]; rfl)) trivial, trivial⟩ ⟨⟨rfl, .inl ⟨rfl, rr_lt _ _ _ _ _⟩⟩, trivial⟩
  · have hj : j = k := by have := of_decide_eq_false h; omega
    subst hj
    rw [Nat.sub_self, rcl] at g4
    cases g4
    exact ⟨[(0, 0)], ⟨rfl, rfl, rfl⟩, .inl rfl, rr_keep _ _ _ _ rfl⟩
end Go.AW.Wir

/- The wire: the reference's reader, walked: items. -/
set_option linter.unusedVariables false
set_option linter.unusedSimpArgs false
namespace Go.AW.Wir
open Go Go.AW Go.Proofs
set_option maxRecDepth 10000
set_option pp.maxSteps 60

theorem ritems_rng {b : List UInt8} {f : Nat} (ih : ∀ (left : Int) (a : Nat), 0 ≤ left → a ≤ b.length → (ritem b f left a).2.2.1 ≤ b.length ∧ -1 ≤ (ritem b f left a).2.1 ∧ (ritem b f left a).2.1 ≤ left ∧ ((ritem b f left a).2.2.2 = false → 0 ≤ (ritem b f left a).2.1)) :
    ∀ (n : Nat) (acc : List It) (left : Int) (a : Nat) (bad : Bool), (-1 ≤ left ∧ (bad = false → 0 ≤ left)) → a ≤ b.length → (ritems b f n acc left a bad).2.2.1 ≤ b.length ∧ -1 ≤ (ritems b f n acc left a bad).2.1 ∧ (ritems b f n acc left a bad).2.1 ≤ left ∧ ((ritems b f n acc left a bad).2.2.2 = false → 0 ≤ (ritems b f n acc left a bad).2.1)
  | 0, acc, left, a, bad, h1, h2 => by rw [ritems_zero]; exact ⟨h2, h1.1, Int.le_refl _, h1.2⟩
  | n + 1, acc, left, a, true, h1, h2 => by rw [ritems_bad]; exact ⟨h2, h1.1, Int.le_refl _, fun h => by cases h⟩
  | n + 1, acc, left, a, false, h1, h2 => by
    rw [ritems_succ, if_neg (by simp)]
    obtain ⟨g1, g2, g3, g4⟩ := ih left a (h1.2 rfl) h2
    obtain ⟨k1, k2, k3, k4⟩ := ritems_rng ih n (acc ++ [(ritem b f left a).1]) _ _ (ritem b f left a).2.2.2 ⟨g2, g4⟩ g1
    exact ⟨k1, k2, by omega, k4⟩
theorem ritem_rng {b : List UInt8} : ∀ (f : Nat) (left : Int) (a : Nat), 0 ≤ left → a ≤ b.length → (ritem b f left a).2.2.1 ≤ b.length ∧ -1 ≤ (ritem b f left a).2.1 ∧ (ritem b f left a).2.1 ≤ left ∧ ((ritem b f left a).2.2.2 = false → 0 ≤ (ritem b f left a).2.1)
  | 0, left, a, h1, h2 => by rw [ritem_zero]; exact ⟨h2, by dsimp only; omega, by dsimp only; omega, fun h => by cases h⟩
  | f + 1, left, a, h1, h2 => by
    have r1 := rbyte_rng b a false h2
    obtain ⟨⟨k, a1, bad1⟩, hp⟩ : ∃ p, rbyte b a false = p := ⟨_, rfl⟩
    rw [hp] at r1
    have r2 := rcount_rng b a1 bad1 r1.2.2
    obtain ⟨⟨n, a2, bad2⟩, hq⟩ : ∃ p, rcount b a1 bad1 = p := ⟨_, rfl⟩
    rw [hq] at r2
    rw [ritem_succ b f left a hp hq]
    dsimp only at r1 r2
    split
    · exact ⟨h2, by dsimp only; omega, by dsimp only; omega, fun h => by cases h⟩
    rename_i hl
    split
    · exact ⟨r2.2.2, by dsimp only; omega, by dsimp only; omega, fun _ => by dsimp only; omega⟩
    split
    · split
      · exact ⟨r2.2.2, by dsimp only; omega, by dsimp only; omega, fun h => by cases h⟩
      · rename_i hh
        simp only [not_or] at hh
        exact ⟨by dsimp only; omega, by dsimp only; omega, by dsimp only; omega, fun _ => by dsimp only; omega⟩
    split
    · obtain ⟨k1, k2, k3, k4⟩ := ritems_rng (fun left a => ritem_rng f left a) n [] (left - 1) a2 (if 4096 < n then true else bad2) ⟨by omega, fun _ => by omega⟩ r2.2.2
      exact ⟨k1, k2, by dsimp only; omega, k4⟩
    · exact ⟨r1.2.2, by dsimp only; omega, by dsimp only; omega, fun h => by cases h⟩

theorem own4k_lt (x : Nat) (k : Int) (rows : List (List T)) (h : Nat.blt 5 x = true) : blkLt x (.own 4 [[i64 k, i64 0, str [], .sl (some 5) 4 rows]]) := by
  intro row hr c hc
  obtain rfl := List.mem_singleton.1 hr
  simp only [List.mem_cons, List.mem_nil_iff, or_false] at hc
  rcases hc with rfl | rfl | rfl | rfl
  · trivial
  · trivial
  · trivial
  · exact h
abbrev RLJ : List Nat := [2000001, 1000000 + 69, 1000000 + 70, 1000000 + 58]
def RItemOk (b : List UInt8) (f : Nat) : Prop := ∀ (deep left : Int) (a : Nat), deep + f = 13 → 1 ≤ deep → 0 ≤ left → left ≤ 4096 → a ≤ b.length →
    FCm Try.prog 58 [.ptr 0 0 0, i64 deep] (rrM b a left false) 1 (itT (ritem b f left a).1) (rrM b (ritem b f left a).2.2.1 (ritem b f left a).2.1 (ritem b f left a).2.2.2)
theorem ritem_law0 (b : List UInt8) : RItemOk b 0 := by
  intro deep left a hd hd1 hl0 hl1 ha
  rw [ritem_zero]
  refine FCm_of_awp (fn := Try.f58) (c := bodyC Try.f58) Try.func58 rfl (of_decide_eq_true rfl) RLJ rfl ?_
  conv => whnf
  rw [wrap_i64 (left - 1) (by omega) (by omega)]
  refine br_intro (fun h => ?_) (fun h => ?_) <;> (rw [h]; conv => whnf)
  · exact ⟨[(0, 0)], ⟨rfl, rfl, rfl⟩, .inr (.inr (.inr ⟨.inl rfl, .inl rfl, .inl rfl, .inr (.inl ⟨rfl, 4, rfl⟩), trivial⟩)), rr_keep _ _ _ _ rfl⟩
  · rw [show decide (deep > 12) = true from decide_eq_true (by omega)]
    conv => whnf
    exact ⟨[(0, 0)], ⟨rfl, rfl, rfl⟩, .inr (.inr (.inr ⟨.inl rfl, .inl rfl, .inl rfl, .inr (.inl ⟨rfl, 4, rfl⟩), trivial⟩)), rr_keep _ _ _ _ rfl⟩
theorem ritem_law1 (b : List UInt8) (hb : b.length ≤ 140737488351232) (f : Nat) (ih : RItemOk b f) : RItemOk b (f + 1) := by
  intro deep left a hd hd1 hl0 hl1 ha
  have h1 := byte_law b hb a ha (left - 1) false
  have r1 := rbyte_rng b a false ha
  obtain ⟨⟨k, a1, bad1⟩, hp⟩ : ∃ p, rbyte b a false = p := ⟨_, rfl⟩
  rw [hp] at r1 h1
  dsimp only at r1 h1
  have h2 := count_law b hb a1 r1.2.2 (left - 1) bad1
  have r2 := rcount_rng b a1 bad1 r1.2.2
  obtain ⟨⟨n, a2, bad2⟩, hq⟩ : ∃ p, rcount b a1 bad1 = p := ⟨_, rfl⟩
  rw [hq] at r2 h2
  dsimp only at r2 h2
  have hri := ritem_succ b f left a hp hq
  obtain ⟨⟨I, L, A, B⟩, hR⟩ : ∃ p, ritem b (f + 1) left a = p := ⟨_, rfl⟩
  rw [hR] at hri ⊢
  dsimp only
  refine FCm_of_awp (fn := Try.f58) (c := bodyC Try.f58) Try.func58 rfl (of_decide_eq_true rfl) RLJ rfl ?_
  conv => whnf
  rw [wrap_i64 (left - 1) (by omega) (by omega)]
  refine br_intro (fun h => ?_) (fun h => ?_) <;> (rw [h]; conv => whnf)
  · rw [if_pos (of_decide_eq_true h)] at hri
    cases hri
    exact ⟨[(0, 0)], ⟨rfl, rfl, rfl⟩, .inr (.inr (.inr ⟨.inl rfl, .inl rfl, .inl rfl, .inr (.inl ⟨rfl, 4, rfl⟩), trivial⟩)), rr_keep _ _ _ _ rfl⟩
  have hl := of_decide_eq_false h
  rw [if_neg hl] at hri
  rw [show decide (deep > 12) = false from decide_eq_false (by omega)]
  conv => whnf
  refine ⟨[0], _, _, _, _, rrM b a1 (left - 1) bad1, _, h1, ⟨rfl, ⟨rfl, trivial⟩, rfl, rfl, rr_in rfl, rfl, rfl, rr_out _ _ _ _ _ _⟩, ?_⟩
  conv => whnf
  by_cases k1 : (k : Int) = 1
  · rw [bq k1]
    conv => whnf
    rw [if_pos (by omega)] at hri
    cases hri
    refine ⟨[0], _, _, _, _, rrM b a2 (left - 1) bad2, _, h2, ⟨rfl, ⟨rfl, trivial⟩, rfl, rfl, rr_in rfl, rfl, rfl, rr_out _ _ _ _ _ _⟩, ?_⟩
    conv => whnf
    refine ⟨by decide, ?_⟩
    conv => whnf
    refine ⟨by decide, ?_⟩
    conv => whnf
    have hmod : (n : Int).tmod 2 = ((n % 2 : Nat) : Int) := by rw [Int.tmod_eq_emod_of_nonneg (by omega)]; omega
    have hdiv : IntKind.i64.wrap (IntKind.u64.wrap ((n : Int).tdiv 2)) = ((n / 2 : Nat) : Int) := by
      rw [Int.tdiv_eq_ediv_of_nonneg (by omega), wrap_u64m, wrap_i64 _ (by omega) (by omega)]; omega
    rw [hmod]
    by_cases hn : ((n % 2 : Nat) : Int) = 1
    · rw [bq hn]
      conv => whnf
      refine ⟨by decide, ?_⟩
      conv => whnf
      refine ⟨[(0, 0)], ⟨rfl, rfl, rfl⟩, .inr (.inr (.inr ⟨.inl (congrArg i64 k1), .inl (congrArg i64 ?_), .inl rfl, .inr (.inl ⟨rfl, 4, rfl⟩), trivial⟩)), rr_keep _ _ _ _ rfl⟩
      rw [hdiv, wrap_i64 (0 - _) (by omega) (by omega), wrap_i64 _ (by omega) (by omega)]
      show _ = (if n % 2 = 0 then ((n / 2 : Nat) : Int) else -((n / 2 : Nat) : Int) - 1)
      rw [if_neg (by omega)]
      omega
    · rw [bn hn]
      conv => whnf
      refine ⟨[(0, 0)], ⟨rfl, rfl, rfl⟩, .inr (.inr (.inr ⟨.inl (congrArg i64 k1), .inl (congrArg i64 ?_), .inl rfl, .inr (.inl ⟨rfl, 4, rfl⟩), trivial⟩)), rr_keep _ _ _ _ rfl⟩
      rw [hdiv]
      show _ = (if n % 2 = 0 then ((n / 2 : Nat) : Int) else -((n / 2 : Nat) : Int) - 1)
      rw [if_pos (by omega)]
  rw [bn k1]
  rw [if_neg (by omega)] at hri
  conv => whnf
  by_cases k2 : (k : Int) = 2
  · rw [bq k2]
    conv => whnf
    rw [if_pos (by omega)] at hri
    refine ⟨[0], _, _, _, _, rrM b a2 (left - 1) bad2, _, h2, ⟨rfl, ⟨rfl, trivial⟩, rfl, rfl, rr_in rfl, rfl, rfl, rr_out _ _ _ _ _ _⟩, ?_⟩
    conv => whnf
    refine br_intro (fun h4 => ?_) (fun h4 => ?_) <;> (rw [h4]; conv => whnf)
    · rw [if_pos (.inl (by have := of_decide_eq_true h4; omega))] at hri
      cases hri
      refine ⟨[(0, 0)], ⟨rfl, rfl, rfl⟩, .inr (.inr (.inr ⟨.inl (congrArg i64 k2), .inl rfl, .inl rfl, .inr (.inl ⟨rfl, 4, rfl⟩), trivial⟩)), rr_keep _ _ _ _ rfl⟩
    cases bad2 with
    | true =>
      conv => whnf
      rw [if_pos (.inr (.inl rfl))] at hri
      cases hri
      refine ⟨[(0, 0)], ⟨rfl, rfl, rfl⟩, .inr (.inr (.inr ⟨.inl (congrArg i64 k2), .inl rfl, .inl rfl, .inr (.inl ⟨rfl, 4, rfl⟩), trivial⟩)), rr_keep _ _ _ _ rfl⟩
    | false =>
      conv => whnf
      rw [bytesR_len, wrap_i64 ((b.length : Int) - (a2 : Int)) (by omega) (by omega), show IntKind.u64.wrap ((b.length : Int) - (a2 : Int)) = (b.length : Int) - (a2 : Int) by rw [wrap_u64m]; omega]
      refine br_intro (fun h5 => ?_) (fun h5 => ?_) <;> (rw [h5]; conv => whnf)
      · rw [if_pos (.inr (.inr (by have := of_decide_eq_true h5; omega)))] at hri
        cases hri
        refine ⟨[(0, 0)], ⟨rfl, rfl, rfl⟩, .inr (.inr (.inr ⟨.inl (congrArg i64 k2), .inl rfl, .inl rfl, .inr (.inl ⟨rfl, 4, rfl⟩), trivial⟩)), rr_keep _ _ _ _ rfl⟩
      · have h4' := of_decide_eq_false h4
        have h5' := of_decide_eq_false h5
        rw [if_neg (by simp only [not_or]; exact ⟨by omega, by simp, by omega⟩)] at hri
        cases hri
        have hend : IntKind.i64.wrap ((a2 : Int) + IntKind.i64.wrap (n : Int)) = ((a2 + n : Nat) : Int) := by
          rw [wrap_i64 (n : Int) (by omega) (by omega), wrap_i64 _ (by omega) (by omega)]; omega
        rw [hend]
        refine ⟨by omega, ?_⟩
        conv => whnf
        refine ⟨by omega, ?_⟩
        conv => whnf
        rw [Int.toNat_natCast, Int.toNat_natCast, bytesR_len]
        refine ⟨⟨by omega, by omega⟩, ?_⟩
        conv => whnf
        rw [bytesR_drop, show a2 + n - a2 = n by omega, bytesR_take]
        refine ⟨_, ⟨rfl, rfl⟩, ?_⟩
        conv => whnf
        refine ⟨[(0, 0)], ⟨rfl, rfl, rfl⟩, .inr (.inr (.inr ⟨.inl (congrArg i64 k2), .inl rfl, .inl rfl, .inr (.inl ⟨rfl, 4, rfl⟩), trivial⟩)), rr_keep _ _ _ _ ?_⟩
        exact congrArg (fun z => some (Blk.own 4 [[T.sl none 1 (bytesR b), i64 z, i64 (left - 1), tb false]])) hend
  rw [bn k2]
  rw [if_neg (by omega)] at hri
  conv => whnf
  by_cases k3 : (k : Int) = 3
  · rw [bq k3]
    conv => whnf
    rw [if_pos (by omega)] at hri
    refine ⟨[0], _, _, _, _, rrM b a2 (left - 1) bad2, _, h2, ⟨rfl, ⟨rfl, trivial⟩, rfl, rfl, rr_in rfl, rfl, rfl, rr_out _ _ _ _ _ _⟩, ?_⟩
    conv => whnf
    obtain ⟨bd, hbd⟩ : ∃ bd, (if 4096 < n then true else bad2) = bd := ⟨_, rfl⟩
    rw [hbd] at hri
    have hg6 : bd = false → 0 ≤ left - 1 ∧ n ≤ 4096 := by
      intro e
      rw [← hbd] at e
      split at e
      · cases e
      · exact ⟨by omega, by omega⟩
    refine br_intro (fun h4 => ?_) (fun h4 => ?_) <;> (rw [h4]; conv => whnf)
    all_goals
      refine loop_intro (fun y : { y : Nat × List It × Int × Nat × Bool // y.1 ≤ n ∧ y.2.1.length ≤ y.1 ∧ -1 ≤ y.2.2.1 ∧ y.2.2.1 ≤ 4096 ∧ y.2.2.2.1 ≤ b.length ∧ (y.2.2.2.2 = false → 0 ≤ y.2.2.1 ∧ n ≤ 4096) ∧ ritems b f (n - y.1) y.2.1 y.2.2.1 y.2.2.2.1 y.2.2.2.2 = ritems b f n [] (left - 1) a2 bd } =>
          ⟨[(0, .ptr 0 0 0), (1, i64 deep), (4, .ptr 1 0 0), (5, .ptr 3 0 0), (8, u64 n), (9, u64 y.1.1)],
            [(0, .own 4 [[.sl none 1 (bytesR b), i64 (y.1.2.2.2.1 : Nat), i64 y.1.2.2.1, tb y.1.2.2.2.2]]), (1, .own 4 [[i64 0, i64 0, str [], .lit (.slice none 0 0)]]), (3, .own 4 [[i64 (k : Int), i64 0, str [], .sl (some 5) 4 (itR y.1.2.1)]]), (5, .tok 4 y.1.2.1.length)], 148, 6, RLJ⟩)
          (fun y => n - y.1.1) ⟨(0, [], left - 1, a2, bd), Nat.zero_le _, by simp, by dsimp only; omega, by dsimp only; omega, r2.2.2, hg6, rfl⟩ ?_ ?_
      · refine Wk.intro [(5, 4)] rfl (fun p hp => by obtain rfl := List.mem_singleton.1 hp; exact ⟨Nat.le_of_ble_eq_true rfl, Nat.le_of_ble_eq_true rfl, fun q hq _ => List.mem_singleton.1 hq⟩)
          ⟨.same rfl (by exact rfl), .same rfl trivial, .same rfl (by exact rfl), .same rfl (by exact rfl), .same rfl trivial, .same rfl trivial, trivial⟩
          ⟨⟨rfl, .inl ⟨?_, rr_lt _ _ _ _ _⟩⟩, ⟨rfl, .inl ⟨rfl, own4_lt _⟩⟩, ⟨rfl, .inr (.inr ⟨4, [[i64 (k : Int), i64 0, str [], .lit (.slice none 0 0)]], [[i64 (k : Int), i64 0, str [], .sl (some 5) 4 (itR [])]], rfl, rfl, ⟨⟨.same rfl trivial, .same rfl trivial, .same rfl trivial, .inr (.inr (.inr (.inl ⟨rfl, 5, 4, rfl, by simp⟩))), trivial⟩, trivial⟩⟩)⟩, ⟨rfl, .inr (.inl ⟨4, by simp, rfl⟩)⟩, trivial⟩
        have hbb : (if 4096 < n then true else bad2) = bd := hbd
        first
          | (rw [if_pos (by have := of_decide_eq_true h4; omega)] at hbb; subst hbb; rfl)
          | (rw [if_neg (by have := of_decide_eq_false h4; omega)] at hbb; subst hbb; rfl)
      rintro ⟨⟨m, acc, left1, a3, bd3⟩, g1, g2, g3, g4, g5, g6, g7⟩
      dsimp only at g1 g2 g3 g4 g5 g6 g7 ⊢
      conv => whnf
      refine br_intro (fun h5 => ?_) (fun h5 => ?_) <;> (rw [h5]; conv => whnf)
      · have hmn : m < n := by have := of_decide_eq_true h5; omega
        obtain ⟨d, hd'⟩ : ∃ d, n - m = d + 1 := ⟨n - m - 1, by omega⟩
        rw [hd'] at g7
        cases bd3 with
        | true =>
          conv => whnf
          rw [ritems_bad] at g7
          rw [← g7] at hri
          cases hri
          exact ⟨[(0, 0)], ⟨rfl, rfl, rfl⟩, .inr (.inr (.inr ⟨.inl (congrArg i64 k3), .inl rfl, .inl rfl, .inl (congrArg (T.sl none 4) (by rw [itCx_eq]; rfl)), trivial⟩)), rr_keep _ _ _ _ rfl⟩
        | false =>
          conv => whnf
          obtain ⟨g6a, g6b⟩ := g6 rfl
          rw [ritems_succ, if_neg (by simp)] at g7
          have hc1 := ih (deep + 1) left1 a3 (by omega) (by omega) g6a g4 g5
          have hrr := ritem_rng (b := b) f left1 a3 g6a g5
          obtain ⟨⟨i', left2, a4, bd4⟩, hri'⟩ : ∃ p, ritem b f left1 a3 = p := ⟨_, rfl⟩
          rw [hri'] at hc1 hrr g7
          dsimp only at hc1 hrr g7
          rw [wrap_i64 (deep + 1) (by omega) (by omega)]
          refine ⟨[0], ?_⟩
          conv => whnf
          refine ⟨_, _, _, _, rrM b a4 left2 bd4, _, hc1, ⟨rfl, ⟨rfl, trivial⟩, rfl, rfl, rr_in rfl, rfl, rfl, rr_out _ _ _ _ _ _⟩, ?_⟩
          conv => whnf
          have nb : (Try.prog.types[46]).bytes = 56 := rfl
          refine ⟨itR_len _, by rw [itR_len, nb]; show (acc.length + 1) * 56 ≤ _; omega, by rw [itR_len]; show acc.length + 1 ≤ _; omega, ?_⟩
          conv => whnf
          have hlen : (acc ++ [i']).length = acc.length + 1 := by simp
          refine Nx.intro ⟨(m + 1, acc ++ [i'], left2, a4, bd4), hmn, by dsimp only; omega, by dsimp only; omega, by dsimp only; omega, hrr.1, (fun e => ⟨hrr.2.2.2 e, g6b⟩), (by dsimp only; rw [show n - (m + 1) = d by omega]; exact g7)⟩ (by dsimp only; omega) ?_
          have hrows : itR acc ++ [itC i'] = itR (acc ++ [i']) := itR_append acc [i']
          refine Wk.intro [] rfl (fun p hp => by cases hp) ⟨.same rfl (by exact rfl), .same rfl trivial, .same rfl (by exact rfl), .same rfl (by exact rfl), .same rfl trivial, .same (congrArg (fun z => T.lit (.int .u64 z)) (by rw [wrap_u64m]; show ((m : Int) + 1) % _ = ((m + 1 : Nat) : Int); omega)) trivial, trivial⟩
            ⟨⟨rfl, .inl ⟨rfl, rr_lt _ _ _ _ _⟩⟩, ⟨rfl, .inl ⟨rfl, own4_lt _⟩⟩, ⟨rfl, .inl ⟨?_, own4k_lt _ _ _ (by exact rfl)⟩⟩, ⟨rfl, .inl ⟨?_, trivial⟩⟩, trivial⟩
          · show some (Blk.own 4 [[i64 (k : Int), i64 0, str [], T.sl (some 5) 4 (itR acc ++ [itC i'])]]) = _
            rw [hrows]
          · show some (Blk.tok 4 ((itR acc).length + 1)) = _
            rw [itR_len, hlen]
      · obtain rfl : m = n := by have := of_decide_eq_false h5; omega
        rw [Nat.sub_self, ritems_zero] at g7
        rw [← g7] at hri
        cases hri
        exact ⟨[(0, 0)], ⟨rfl, rfl, rfl⟩, .inr (.inr (.inr ⟨.inl (congrArg i64 k3), .inl rfl, .inl rfl, .inl (congrArg (T.sl none 4) (by rw [itCx_eq]; rfl)), trivial⟩)), rr_keep _ _ _ _ rfl⟩
  rw [bn k3]
  rw [if_neg (by omega)] at hri
  conv => whnf
  cases hri
  exact ⟨[(0, 0)], ⟨rfl, rfl, rfl⟩, .inr (.inr (.inr ⟨.inl rfl, .inl rfl, .inl rfl, .inr (.inl ⟨rfl, 4, rfl⟩), trivial⟩)), rr_keep _ _ _ _ rfl⟩
end Go.AW.Wir

/- The wire: the reference's decoding. -/
set_option linter.unusedVariables false
set_option linter.unusedSimpArgs false
namespace Go.AW.Wir
open Go Go.AW Go.Proofs
set_option maxRecDepth 10000
set_option pp.maxSteps 60

theorem ritem_laws (b : List UInt8) (hb : b.length ≤ 140737488351232) : ∀ f, RItemOk b f
  | 0 => ritem_law0 b
  | f + 1 => ritem_law1 b hb f (ritem_laws b hb f)
theorem decode_r (b : List UInt8) : decode b = if (ritem b 12 4096 0).2.2.2 = true ∨ (ritem b 12 4096 0).2.2.1 < b.length then (noIt, 4) else ((ritem b 12 4096 0).1, 0) := by
  have h := ritem_dec (b := b) 12 4096 0 (Nat.zero_le _)
  rw [List.drop_zero] at h
  unfold decode
  cases hd : dec 12 4096 b with
  | none =>
    rw [hd] at h
    dsimp only at h ⊢
    rw [if_pos (.inl h)]
  | some p =>
    obtain ⟨i, l, r⟩ := p
    rw [hd] at h
    obtain ⟨a', g1, g2, g3⟩ := h
    rw [g3]
    dsimp only
    cases r with
    | nil =>
      have : b.length ≤ a' := List.drop_eq_nil_iff.1 g2.symm
      rw [if_neg (by simp; omega)]
    | cons x r =>
      have : a' < b.length := by
        refine Nat.lt_of_not_le fun h => ?_
        rw [List.drop_of_length_le h] at g2
        cases g2
      rw [if_pos (.inr this)]
theorem rdecode_law (b : List UInt8) (hb : b.length ≤ 140737488351232) : FCv Try.prog 39 [.sl none 1 (bytesR b)] (.tup [itT (decode b).1, i64 (decode b).2]) := by
  have h1 := ritem_laws b hb 12 1 4096 0 (by decide) (by decide) (by decide) (by decide) (Nat.zero_le _)
  have hr := ritem_rng (b := b) 12 4096 0 (by decide) (Nat.zero_le _)
  rw [decode_r]
  obtain ⟨⟨i, left, a, bad⟩, hR⟩ : ∃ p, ritem b 12 4096 0 = p := ⟨_, rfl⟩
  rw [hR] at h1 hr ⊢
  dsimp only at h1 hr ⊢
  refine FCv_of_awp (fn := Try.f39) (c := bodyC Try.f39) Try.func39 rfl (of_decide_eq_true rfl) [1000000 + 58] ?_
  conv => whnf
  refine ⟨[1], _, _, _, _, [(1, .own 4 [[.sl none 1 (bytesR b), i64 (a : Int), i64 left, tb bad]])], _, h1, ⟨rfl, ⟨rfl, trivial⟩, rfl, rfl, rr_in rfl, rfl, rfl, rr_out _ _ _ _ _ _⟩, ?_⟩
  conv => whnf
  have hno : ∀ c, c = true ∨ a < b.length → (if c = true ∨ a < b.length then ((noIt, 4) : It × Int) else (i, 0)) = (noIt, 4) := fun c h => if_pos h
  cases bad with
  | true =>
    conv => whnf
    rw [hno _ (.inl rfl)]
    exact ⟨.inr (.inr (.inr ⟨.inl rfl, .inl rfl, .inl rfl, .inr (.inl ⟨rfl, 4, rfl⟩), trivial⟩)), .inl rfl, trivial⟩
  | false =>
    conv => whnf
    rw [bytesR_len]
    refine br_intro (fun h => ?_) (fun h => ?_) <;> (rw [h]; conv => whnf)
    · have h' := of_decide_eq_true h
      rw [hno _ (.inr (by omega))]
      exact ⟨.inr (.inr (.inr ⟨.inl rfl, .inl rfl, .inl rfl, .inr (.inl ⟨rfl, 4, rfl⟩), trivial⟩)), .inl rfl, trivial⟩
    · have h' := of_decide_eq_false h
      rw [if_neg (by simp; omega)]
      exact ⟨.inl rfl, .inl rfl, trivial⟩

theorem inI_no : inI noIt := by unfold noIt; rw [inI, inIs]; exact ⟨⟨by decide, by simp⟩, trivial⟩
theorem unzig_rng (n : Nat) (h : n < 18446744073709551616) : -9223372036854775808 ≤ unzig n ∧ unzig n ≤ 9223372036854775807 := by
  unfold unzig
  split <;> omega
theorem decL_in {f : Nat} (ih : ∀ {left l : Int} {b r : List UInt8} {i : It}, dec f left b = some (i, l, r) → inI i) : ∀ (n : Nat) {left l : Int} {b r : List UInt8} {o : List It}, decL f n left b = some (o, l, r) → inIs o ∧ o.length = n
  | 0, left, l, b, r, o, h => by rw [decL_zero] at h; cases h; rw [inIs]; exact ⟨trivial, rfl⟩
  | n + 1, left, l, b, r, o, h => by
    rw [decL_succ] at h
    cases hd : dec f left b with
    | none => rw [hd] at h; cases h
    | some p =>
      obtain ⟨i, l1, r1⟩ := p
      rw [hd] at h
      dsimp only at h
      cases hl : decL f n l1 r1 with
      | none => rw [hl] at h; cases h
      | some q =>
        obtain ⟨o2, l2, r2⟩ := q
        rw [hl] at h
        cases h
        obtain ⟨g1, g2⟩ := decL_in ih n hl
        rw [inIs]
        exact ⟨⟨ih hd, g1⟩, by rw [List.length_cons, g2]⟩
theorem dec_in : ∀ {f : Nat} {left l : Int} {b r : List UInt8} {i : It}, dec f left b = some (i, l, r) → inI i
  | 0, left, l, b, r, i, h => by rw [dec_zero] at h; cases h
  | f + 1, left, l, b, r, i, h => by
    cases b with
    | nil => rw [dec_nil] at h; cases h
    | cons k t =>
      rw [dec_cons] at h
      split at h
      · cases h
      split at h
      · split at h
        · cases h
        · rename_i hc
          cases h
          rw [inI, inIs]
          exact ⟨⟨unzig_rng _ (cnt_lt hc).1, by simp⟩, trivial⟩
      · split at h
        · split at h
          · cases h
          · split at h
            · cases h
            · cases h
              rw [inI, inIs]
              exact ⟨⟨by decide, by simp⟩, trivial⟩
        · split at h
          · split at h
            · cases h
            · rename_i hc
              split at h
              · cases h
              · rename_i hd
                cases h
                obtain ⟨g1, g2⟩ := decL_in (fun h => dec_in h) _ hd
                have := (siz_lt hc).1
                rw [inI]
                exact ⟨⟨by decide, by omega⟩, g1⟩
          · cases h
theorem decode_in (b : List UInt8) : inI (decode b).1 := by
  unfold decode
  split
  · rename_i h; exact dec_in h
  · exact inI_no
end Go.AW.Wir
