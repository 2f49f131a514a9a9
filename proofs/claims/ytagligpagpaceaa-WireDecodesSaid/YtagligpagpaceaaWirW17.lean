import Derived.Test.YtagligpagpaceaaWirW16
/- The wire: the reference's reader, walked: items. -/
set_option linter.unusedVariables false
set_option linter.unusedSimpArgs false
namespace Go.AW.Wir
open Go Go.AW Go.Proofs
set_option maxRecDepth 10000
set_option pp.maxSteps 60

theorem ritems_rng {b : List UInt8} {f : Nat} (ih : ∀ (left : Int) (a : Nat), 0 ≤ left → a ≤ b.length → (ritem b f left a).2.2.1 ≤ b.length ∧ -1 ≤ (ritem b f left a).2.1 ∧ (ritem b f left a).2.1 ≤ left ∧ ((ritem b f left a).2.2.2 = false → 0 ≤ (ritem b f left a).2.1)) :
    ∀ (n : Nat) (acc : List It) (left : Int) (a : Nat) (bad : Bool), (-1 ≤ left ∧ (bad = false → 0 ≤ left)) → a ≤ b.length → (ritems b f n acc left a bad).2.2.1 ≤ b.length ∧ -1 ≤ (ritems b f n acc left a bad).2.1 ∧ (ritems b f n acc left a bad).2.1 ≤ left ∧ ((ritems b f n acc left a bad).2.2.2 = false → 0 ≤ (ritems b f n acc left a bad).2.1)
  | 0, acc, left, a, bad, h1, h2 => by rw [ritems_zero]; exact ⟨h2, h1.1, Int.le_refl _, h1.2⟩
  | n + 1, acc, left, a, true, h1, h2 => by rw [ritems_bad]; exact ⟨h2, h1.1, Int.le_refl _, fun h => by cases h⟩
  | n + 1, acc, left, a, false, h1, h2 => by
    rw [ritems_succ, if_neg (by simp)]
    obtain ⟨g1, g2, g3, g4⟩ := ih left a (h1.2 rfl) h2
    obtain ⟨k1, k2, k3, k4⟩ := ritems_rng ih n (acc ++ [(ritem b f left a).1]) _ _ (ritem b f left a).2.2.2 ⟨g2, g4⟩ g1
    exact ⟨k1, k2, by omega, k4⟩
theorem ritem_rng {b : List UInt8} : ∀ (f : Nat) (left : Int) (a : Nat), 0 ≤ left → a ≤ b.length → (ritem b f left a).2.2.1 ≤ b.length ∧ -1 ≤ (ritem b f left a).2.1 ∧ (ritem b f left a).2.1 ≤ left ∧ ((ritem b f left a).2.2.2 = false → 0 ≤ (ritem b f left a).2.1)
  | 0, left, a, h1, h2 => by rw [ritem_zero]; exact ⟨h2, by dsimp only; omega, by dsimp only; omega, fun h => by cases h⟩
  | f + 1, left, a, h1, h2 => by
    have r1 := rbyte_rng b a false h2
    obtain ⟨⟨k, a1, bad1⟩, hp⟩ : ∃ p, rbyte b a false = p := ⟨_, rfl⟩
    rw [hp] at r1
    have r2 := rcount_rng b a1 bad1 r1.2.2
    obtain ⟨⟨n, a2, bad2⟩, hq⟩ : ∃ p, rcount b a1 bad1 = p := ⟨_, rfl⟩
    rw [hq] at r2
    rw [ritem_succ b f left a hp hq]
    dsimp only at r1 r2
    split
    · exact ⟨h2, by dsimp only; omega, by dsimp only; omega, fun h => by cases h⟩
    rename_i hl
    split
    · exact ⟨r2.2.2, by dsimp only; omega, by dsimp only; omega, fun _ => by dsimp only; omega⟩
    split
    · split
      · exact ⟨r2.2.2, by dsimp only; omega, by dsimp only; omega, fun h => by cases h⟩
      · rename_i hh
        simp only [not_or] at hh
        exact ⟨by dsimp only; omega, by dsimp only; omega, by dsimp only; omega, fun _ => by dsimp only; omega⟩
    split
    · obtain ⟨k1, k2, k3, k4⟩ := ritems_rng (fun left a => ritem_rng f left a) n [] (left - 1) a2 (if 4096 < n then true else bad2) ⟨by omega, fun _ => by omega⟩ r2.2.2
      exact ⟨k1, k2, by dsimp only; omega, k4⟩
    · exact ⟨r1.2.2, by dsimp only; omega, by dsimp only; omega, fun h => by cases h⟩

theorem own4k_lt (x : Nat) (k : Int) (rows : List (List T)) (h : Nat.blt 5 x = true) : blkLt x (.own 4 [[i64 k, i64 0, str [], .sl (some 5) 4 rows]]) := by
  intro row hr c hc
  obtain rfl := List.mem_singleton.1 hr
  simp only [List.mem_cons, List.mem_nil_iff, or_false] at hc
  rcases hc with rfl | rfl | rfl | rfl
  · trivial
  · trivial
  · trivial
  · exact h
abbrev RLJ : List Nat := [2000001, 1000000 + 28, 1000000 + 29, 1000000 + 20]
def RItemOk (b : List UInt8) (f : Nat) : Prop := ∀ (deep left : Int) (a : Nat), deep + f = 13 → 1 ≤ deep → 0 ≤ left → left ≤ 4096 → a ≤ b.length →
    FCm Try.prog 20 [.ptr 0 0 0, i64 deep] (rrM b a left false) 1 (itT (ritem b f left a).1) (rrM b (ritem b f left a).2.2.1 (ritem b f left a).2.1 (ritem b f left a).2.2.2)
theorem ritem_law0 (b : List UInt8) : RItemOk b 0 := by
  intro deep left a hd hd1 hl0 hl1 ha
  rw [ritem_zero]
  refine FCm_of_awp (fn := Try.f20) (c := bodyC Try.f20) Try.func20 rfl (of_decide_eq_true rfl) RLJ rfl ?_
  conv => whnf
  rw [wrap_i64 (left - 1) (by omega) (by omega)]
  refine br_intro (fun h => ?_) (fun h => ?_) <;> (rw [h]; conv => whnf)
  · exact ⟨[(0, 0)], ⟨rfl, rfl, rfl⟩, .inr (.inr (.inr ⟨.inl rfl, .inl rfl, .inl rfl, .inr (.inl ⟨rfl, 4, rfl⟩), trivial⟩)), rr_keep _ _ _ _ rfl⟩
  · rw [show decide (deep > 12) = true from decide_eq_true (by omega)]
    conv => whnf
    exact ⟨[(0, 0)], ⟨rfl, rfl, rfl⟩, .inr (.inr (.inr ⟨.inl rfl, .inl rfl, .inl rfl, .inr (.inl ⟨rfl, 4, rfl⟩), trivial⟩)), rr_keep _ _ _ _ rfl⟩
theorem ritem_law1 (b : List UInt8) (hb : b.length ≤ 140737488351232) (f : Nat) (ih : RItemOk b f) : RItemOk b (f + 1) := by
  intro deep left a hd hd1 hl0 hl1 ha
  have h1 := byte_law b hb a ha (left - 1) false
  have r1 := rbyte_rng b a false ha
  obtain ⟨⟨k, a1, bad1⟩, hp⟩ : ∃ p, rbyte b a false = p := ⟨_, rfl⟩
  rw [hp] at r1 h1
  dsimp only at r1 h1
  have h2 := count_law b hb a1 r1.2.2 (left - 1) bad1
  have r2 := rcount_rng b a1 bad1 r1.2.2
  obtain ⟨⟨n, a2, bad2⟩, hq⟩ : ∃ p, rcount b a1 bad1 = p := ⟨_, rfl⟩
  rw [hq] at r2 h2
  dsimp only at r2 h2
  have hri := ritem_succ b f left a hp hq
  obtain ⟨⟨I, L, A, B⟩, hR⟩ : ∃ p, ritem b (f + 1) left a = p := ⟨_, rfl⟩
  rw [hR] at hri ⊢
  dsimp only
  refine FCm_of_awp (fn := Try.f20) (c := bodyC Try.f20) Try.func20 rfl (of_decide_eq_true rfl) RLJ rfl ?_
  conv => whnf
  rw [wrap_i64 (left - 1) (by omega) (by omega)]
  refine br_intro (fun h => ?_) (fun h => ?_) <;> (rw [h]; conv => whnf)
  · rw [if_pos (of_decide_eq_true h)] at hri
    cases hri
    exact ⟨[(0, 0)], ⟨rfl, rfl, rfl⟩, .inr (.inr (.inr ⟨.inl rfl, .inl rfl, .inl rfl, .inr (.inl ⟨rfl, 4, rfl⟩), trivial⟩)), rr_keep _ _ _ _ rfl⟩
  have hl := of_decide_eq_false h
  rw [if_neg hl] at hri
  rw [show decide (deep > 12) = false from decide_eq_false (by omega)]
  conv => whnf
  refine ⟨[0], _, _, _, _, rrM b a1 (left - 1) bad1, _, h1, ⟨rfl, ⟨rfl, trivial⟩, rfl, rfl, rr_in rfl, rfl, rfl, rr_out _ _ _ _ _ _⟩, ?_⟩
  conv => whnf
  by_cases k1 : (k : Int) = 1
  · rw [bq k1]
    conv => whnf
    rw [if_pos (by omega)] at hri
    cases hri
    refine ⟨[0], _, _, _, _, rrM b a2 (left - 1) bad2, _, h2, ⟨rfl, ⟨rfl, trivial⟩, rfl, rfl, rr_in rfl, rfl, rfl, rr_out _ _ _ _ _ _⟩, ?_⟩
    conv => whnf
    refine ⟨by decide, ?_⟩
    conv => whnf
    refine ⟨by decide, ?_⟩
    conv => whnf
    have hmod : (n : Int).tmod 2 = ((n % 2 : Nat) : Int) := by rw [Int.tmod_eq_emod_of_nonneg (by omega)]; omega
    have hdiv : IntKind.i64.wrap (IntKind.u64.wrap ((n : Int).tdiv 2)) = ((n / 2 : Nat) : Int) := by
      rw [Int.tdiv_eq_ediv_of_nonneg (by omega), wrap_u64m, wrap_i64 _ (by omega) (by omega)]; omega
    rw [hmod]
    by_cases hn : ((n % 2 : Nat) : Int) = 1
    · rw [bq hn]
      conv => whnf
      refine ⟨by decide, ?_⟩
      conv => whnf
      refine ⟨[(0, 0)], ⟨rfl, rfl, rfl⟩, .inr (.inr (.inr ⟨.inl (congrArg i64 k1), .inl (congrArg i64 ?_), .inl rfl, .inr (.inl ⟨rfl, 4, rfl⟩), trivial⟩)), rr_keep _ _ _ _ rfl⟩
      rw [hdiv, wrap_i64 (0 - _) (by omega) (by omega), wrap_i64 _ (by omega) (by omega)]
      show _ = (if n % 2 = 0 then ((n / 2 : Nat) : Int) else -((n / 2 : Nat) : Int) - 1)
      rw [if_neg (by omega)]
      omega
    · rw [bn hn]
      conv => whnf
      refine ⟨[(0, 0)], ⟨rfl, rfl, rfl⟩, .inr (.inr (.inr ⟨.inl (congrArg i64 k1), .inl (congrArg i64 ?_), .inl rfl, .inr (.inl ⟨rfl, 4, rfl⟩), trivial⟩)), rr_keep _ _ _ _ rfl⟩
      rw [hdiv]
      show _ = (if n % 2 = 0 then ((n / 2 : Nat) : Int) else -((n / 2 : Nat) : Int) - 1)
      rw [if_pos (by omega)]
  rw [bn k1]
  rw [if_neg (by omega)] at hri
  conv => whnf
  by_cases k2 : (k : Int) = 2
  · rw [bq k2]
    conv => whnf
    rw [if_pos (by omega)] at hri
    refine ⟨[0], _, _, _, _, rrM b a2 (left - 1) bad2, _, h2, ⟨rfl, ⟨rfl, trivial⟩, rfl, rfl, rr_in rfl, rfl, rfl, rr_out _ _ _ _ _ _⟩, ?_⟩
    conv => whnf
    refine br_intro (fun h4 => ?_) (fun h4 => ?_) <;> (rw [h4]; conv => whnf)
    · rw [if_pos (.inl (by have := of_decide_eq_true h4; omega))] at hri
      cases hri
      refine ⟨[(0, 0)], ⟨rfl, rfl, rfl⟩, .inr (.inr (.inr ⟨.inl (congrArg i64 k2), .inl rfl, .inl rfl, .inr (.inl ⟨rfl, 4, rfl⟩), trivial⟩)), rr_keep _ _ _ _ rfl⟩
    cases bad2 with
    | true =>
      conv => whnf
      rw [if_pos (.inr (.inl rfl))] at hri
      cases hri
      refine ⟨[(0, 0)], ⟨rfl, rfl, rfl⟩, .inr (.inr (.inr ⟨.inl (congrArg i64 k2), .inl rfl, .inl rfl, .inr (.inl ⟨rfl, 4, rfl⟩), trivial⟩)), rr_keep _ _ _ _ rfl⟩
    | false =>
      conv => whnf
      rw [bytesR_len, wrap_i64 ((b.length : Int) - (a2 : Int)) (by omega) (by omega), show IntKind.u64.wrap ((b.length : Int) - (a2 : Int)) = (b.length : Int) - (a2 : Int) by rw [wrap_u64m]; omega]
      refine br_intro (fun h5 => ?_) (fun h5 => ?_) <;> (rw [h5]; conv => whnf)
      · rw [if_pos (.inr (.inr (by have := of_decide_eq_true h5; omega)))] at hri
        cases hri
        refine ⟨[(0, 0)], ⟨rfl, rfl, rfl⟩, .inr (.inr (.inr ⟨.inl (congrArg i64 k2), .inl rfl, .inl rfl, .inr (.inl ⟨rfl, 4, rfl⟩), trivial⟩)), rr_keep _ _ _ _ rfl⟩
      · have h4' := of_decide_eq_false h4
        have h5' := of_decide_eq_false h5
        rw [if_neg (by simp only [not_or]; exact ⟨by omega, by simp, by omega⟩)] at hri
        cases hri
        have hend : IntKind.i64.wrap ((a2 : Int) + IntKind.i64.wrap (n : Int)) = ((a2 + n : Nat) : Int) := by
          rw [wrap_i64 (n : Int) (by omega) (by omega), wrap_i64 _ (by omega) (by omega)]; omega
        rw [hend]
        refine ⟨by omega, ?_⟩
        conv => whnf
        refine ⟨by omega, ?_⟩
        conv => whnf
        rw [Int.toNat_natCast, Int.toNat_natCast, bytesR_len]
        refine ⟨⟨by omega, by omega⟩, ?_⟩
        conv => whnf
        rw [bytesR_drop, show a2 + n - a2 = n by omega, bytesR_take]
        refine ⟨_, ⟨rfl, rfl⟩, ?_⟩
        conv => whnf
        refine ⟨[(0, 0)], ⟨rfl, rfl, rfl⟩, .inr (.inr (.inr ⟨.inl (congrArg i64 k2), .inl rfl, .inl rfl, .inr (.inl ⟨rfl, 4, rfl⟩), trivial⟩)), rr_keep _ _ _ _ ?_⟩
        exact congrArg (fun z => some (Blk.own 4 [[T.sl none 1 (bytesR b), i64 z, i64 (left - 1), tb false]])) hend
  rw [bn k2]
  rw [if_neg (by omega)] at hri
  conv => whnf
  by_cases k3 : (k : Int) = 3
  · rw [bq k3]
    conv => whnf
    rw [if_pos (by omega)] at hri
    refine ⟨[0], _, _, _, _, rrM b a2 (left - 1) bad2, _, h2, ⟨rfl, ⟨rfl, trivial⟩, rfl, rfl, rr_in rfl, rfl, rfl, rr_out _ _ _ _ _ _⟩, ?_⟩
    conv => whnf
    obtain ⟨bd, hbd⟩ : ∃ bd, (if 4096 < n then true else bad2) = bd := ⟨_, rfl⟩
    rw [hbd] at hri
    have hg6 : bd = false → 0 ≤ left - 1 ∧ n ≤ 4096 := by
      intro e
      rw [← hbd] at e
      split at e
      · cases e
      · exact ⟨by omega, by omega⟩
    refine br_intro (fun h4 => ?_) (fun h4 => ?_) <;> (rw [h4]; conv => whnf)
    all_goals
      refine loop_intro (fun y : { y : Nat × List It × Int × Nat × Bool // y.1 ≤ n ∧ y.2.1.length ≤ y.1 ∧ -1 ≤ y.2.2.1 ∧ y.2.2.1 ≤ 4096 ∧ y.2.2.2.1 ≤ b.length ∧ (y.2.2.2.2 = false → 0 ≤ y.2.2.1 ∧ n ≤ 4096) ∧ ritems b f (n - y.1) y.2.1 y.2.2.1 y.2.2.2.1 y.2.2.2.2 = ritems b f n [] (left - 1) a2 bd } =>
          ⟨[(0, .ptr 0 0 0), (1, i64 deep), (4, .ptr 1 0 0), (5, .ptr 3 0 0), (8, u64 n), (9, u64 y.1.1)],
            [(0, .own 4 [[.sl none 1 (bytesR b), i64 (y.1.2.2.2.1 : Nat), i64 y.1.2.2.1, tb y.1.2.2.2.2]]), (1, .own 4 [[i64 0, i64 0, str [], .lit (.slice none 0 0)]]), (3, .own 4 [[i64 (k : Int), i64 0, str [], .sl (some 5) 4 (itR y.1.2.1)]]), (5, .tok 4 y.1.2.1.length)], 148, 6, RLJ⟩)
          (fun y => n - y.1.1) ⟨(0, [], left - 1, a2, bd), Nat.zero_le _, by simp, by dsimp only; omega, by dsimp only; omega, r2.2.2, hg6, rfl⟩ ?_ ?_
      · refine Wk.intro [(5, 4)] rfl (fun p hp => by obtain rfl := List.mem_singleton.1 hp; exact ⟨Nat.le_of_ble_eq_true rfl, Nat.le_of_ble_eq_true rfl, fun q hq _ => List.mem_singleton.1 hq⟩)
          ⟨.same rfl (by exact rfl), .same rfl trivial, .same rfl (by exact rfl), .same rfl (by exact rfl), .same rfl trivial, .same rfl trivial, trivial⟩
          ⟨⟨rfl, .inl ⟨?_, rr_lt _ _ _ _ _⟩⟩, ⟨rfl, .inl ⟨rfl, own4_lt _⟩⟩, ⟨rfl, .inr (.inr ⟨4, [[i64 (k : Int), i64 0, str [], .lit (.slice none 0 0)]], [[i64 (k : Int), i64 0, str [], .sl (some 5) 4 (itR [])]], rfl, rfl, ⟨⟨.same rfl trivial, .same rfl trivial, .same rfl trivial, .inr (.inr (.inr (.inl ⟨rfl, 5, 4, rfl, by simp⟩))), trivial⟩, trivial⟩⟩)⟩, ⟨rfl, .inr (.inl ⟨4, by simp, rfl⟩)⟩, trivial⟩
        have hbb : (if 4096 < n then true else bad2) = bd := hbd
        first
          | (rw [if_pos (by have := of_decide_eq_true h4; omega)] at hbb; subst hbb; rfl)
          | (rw [if_neg (by have := of_decide_eq_false h4; omega)] at hbb; subst hbb; rfl)
      rintro ⟨⟨m, acc, left1, a3, bd3⟩, g1, g2, g3, g4, g5, g6, g7⟩
      dsimp only at g1 g2 g3 g4 g5 g6 g7 ⊢
      conv => whnf
      refine br_intro (fun h5 => ?_) (fun h5 => ?_) <;> (rw [h5]; conv => whnf)
      · have hmn : m < n := by have := of_decide_eq_true h5; omega
        obtain ⟨d, hd'⟩ : ∃ d, n - m = d + 1 := ⟨n - m - 1, by omega⟩
        rw [hd'] at g7
        cases bd3 with
        | true =>
          conv => whnf
          rw [ritems_bad] at g7
          rw [← g7] at hri
          cases hri
          exact ⟨[(0, 0)], ⟨rfl, rfl, rfl⟩, .inr (.inr (.inr ⟨.inl (congrArg i64 k3), .inl rfl, .inl rfl, .inl (congrArg (T.sl none 4) (by rw [itCx_eq]; rfl)), trivial⟩)), rr_keep _ _ _ _ rfl⟩
        | false =>
          conv => whnf
          obtain ⟨g6a, g6b⟩ := g6 rfl
          rw [ritems_succ, if_neg (by simp)] at g7
          have hc1 := ih (deep + 1) left1 a3 (by omega) (by omega) g6a g4 g5
          have hrr := ritem_rng (b := b) f left1 a3 g6a g5
          obtain ⟨⟨i', left2, a4, bd4⟩, hri'⟩ : ∃ p, ritem b f left1 a3 = p := ⟨_, rfl⟩
          rw [hri'] at hc1 hrr g7
          dsimp only at hc1 hrr g7
          rw [wrap_i64 (deep + 1) (by omega) (by omega)]
          refine ⟨[0], ?_⟩
          conv => whnf
          refine ⟨_, _, _, _, rrM b a4 left2 bd4, _, hc1, ⟨rfl, ⟨rfl, trivial⟩, rfl, rfl, rr_in rfl, rfl, rfl, rr_out _ _ _ _ _ _⟩, ?_⟩
          conv => whnf
          have nb : (Try.prog.types[26]).bytes = 56 := rfl
          refine ⟨itR_len _, by rw [itR_len, nb]; show (acc.length + 1) * 56 ≤ _; omega, by rw [itR_len]; show acc.length + 1 ≤ _; omega, ?_⟩
          conv => whnf
          have hlen : (acc ++ [i']).length = acc.length + 1 := by simp
          refine Nx.intro ⟨(m + 1, acc ++ [i'], left2, a4, bd4), hmn, by dsimp only; omega, by dsimp only; omega, by dsimp only; omega, hrr.1, (fun e => ⟨hrr.2.2.2 e, g6b⟩), (by dsimp only; rw [show n - (m + 1) = d by omega]; exact g7)⟩ (by dsimp only; omega) ?_
          have hrows : itR acc ++ [itC i'] = itR (acc ++ [i']) := itR_append acc [i']
          refine Wk.intro [] rfl (fun p hp => by cases hp) ⟨.same rfl (by exact rfl), .same rfl trivial, .same rfl (by exact rfl), .same rfl (by exact rfl), .same rfl trivial, .same (congrArg (fun z => T.lit (.int .u64 z)) (by rw [wrap_u64m]; show ((m : Int) + 1) % _ = ((m + 1 : Nat) : Int); omega)) trivial, trivial⟩
            ⟨⟨rfl, .inl ⟨rfl, rr_lt _ _ _ _ _⟩⟩, ⟨rfl, .inl ⟨rfl, own4_lt _⟩⟩, ⟨rfl, .inl ⟨?_, own4k_lt _ _ _ (by exact rfl)⟩⟩, ⟨rfl, .inl ⟨?_, trivial⟩⟩, trivial⟩
          · show some (Blk.own 4 [[i64 (k : Int), i64 0, str [], T.sl (some 5) 4 (itR acc ++ [itC i'])]]) = _
            rw [hrows]
          · show some (Blk.tok 4 ((itR acc).length + 1)) = _
            rw [itR_len, hlen]
      · obtain rfl : m = n := by have := of_decide_eq_false h5; omega
        rw [Nat.sub_self, ritems_zero] at g7
        rw [← g7] at hri
        cases hri
        exact ⟨[(0, 0)], ⟨rfl, rfl, rfl⟩, .inr (.inr (.inr ⟨.inl (congrArg i64 k3), .inl rfl, .inl rfl, .inl (congrArg (T.sl none 4) (by rw [itCx_eq]; rfl)), trivial⟩)), rr_keep _ _ _ _ rfl⟩
  rw [bn k3]
  rw [if_neg (by omega)] at hri
  conv => whnf
  cases hri
  exact ⟨[(0, 0)], ⟨rfl, rfl, rfl⟩, .inr (.inr (.inr ⟨.inl rfl, .inl rfl, .inl rfl, .inr (.inl ⟨rfl, 4, rfl⟩), trivial⟩)), rr_keep _ _ _ _ rfl⟩
end Go.AW.Wir
