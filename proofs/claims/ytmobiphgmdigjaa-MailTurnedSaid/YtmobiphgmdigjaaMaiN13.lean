import Derived.Test.YtmobiphgmdigjaaMaiN10
import Derived.Test.YtmobiphgmdigjaaAw27
/- Mails: there and back; a byte that is turned. -/
set_option linter.unusedVariables false
set_option linter.unusedSimpArgs false
namespace Go.AW.Ml
open Go Go.AW Go.AW.Wir Go.AW.Cm Go.Proofs
set_option maxRecDepth 40000
set_option pp.maxSteps 60

/-- Cells of a mail whose lists are told. -/
abbrev mA (m : Mail) (RL RJ : List (List T)) : T := .agg [i64 m.kind, i64 m.term, i64 m.a, i64 m.b, i64 m.c, i64 m.d, .sl none 2 RL, i64 m.si, i64 m.st, ts m.sd, .sl none 7 RJ]
abbrev rL (m : Mail) : List (List T) := m.l.map fun x => eC x
abbrev rJ (m : Mail) : List (List T) := m.j.map fun x => jC x
theorem apart_m {m n : Mail} {a b : List UInt8} (hm : inM m) (hn : inM n) (h1 : encM m = (a, 0)) (h2 : encM n = (b, 0)) : decide (a = b) = decide (m = n) := by
  apply decide_eq_decide.2
  constructor
  · rintro rfl
    have e1 := encM_dec hm h1
    rw [encM_dec hn h2] at e1
    exact (congrArg Prod.fst e1).symm
  · rintro rfl
    rw [h1] at h2
    exact congrArg Prod.fst h2
theorem MailBack_law (m n : Mail) (s : List UInt8) (hm : inM m) (hn : inM n) (hs : s.length ≤ 140737488351232) : FCv Try.prog 5 [.agg (mC m), .agg (mC n), ts s] (tb true) := by
  have k1 : FCv Try.prog 10 [mA m (rL m) (rJ m)] _ := menc_law m hm
  have k2 : FCv Try.prog 10 [mA n (rL n) (rJ n)] _ := menc_law n hn
  have b1 : FCv Try.prog 9 [mA m (rL m) (rJ m)] _ := large_law m hm
  have b2 : FCv Try.prog 9 [mA n (rL n) (rJ n)] _ := large_law n hn
  have sm : FCv Try.prog 16 [mA m (rL m) (rJ m), mA m (rL m) (rJ m)] _ := same_law m m hm hm
  have sn : FCv Try.prog 16 [mA m (rL m) (rJ m), mA n (rL n) (rJ n)] _ := same_law m n hm hn
  rw [decide_eq_true rfl] at sm
  have k3 : FCv Try.prog 14 [ts s] (.tup [mA (decM s).1 (rL (decM s).1) (rJ (decM s).1), _]) := mdec_law s hs
  have hdi := decM_in s
  have d1 : ∀ a, encM m = (a, 0) → FCv Try.prog 14 [ts a] (.tup [mA m (rL m) (rJ m), i64 0]) := fun a ha => by
    have h := mdec_law a (by have := encM_len ha; omega)
    rw [encM_dec hm ha] at h
    exact h
  have ap : ∀ a b, encM m = (a, 0) → encM n = (b, 0) → decide (a = b) = decide (m = n) := fun a b => apart_m hm hn
  show FCv _ _ [mA m (rL m) (rJ m), mA n (rL n) (rJ n), ts s] _
  obtain ⟨L1, hL1⟩ : ∃ p, largeM m = p := ⟨_, rfl⟩
  obtain ⟨L2, hL2⟩ : ∃ p, largeM n = p := ⟨_, rfl⟩
  rw [hL1] at b1
  rw [hL2] at b2
  have hc1 := encM_cases m
  have hc2 := encM_cases n
  obtain ⟨E1, hE1⟩ : ∃ p, encM m = p := ⟨_, rfl⟩
  obtain ⟨E2, hE2⟩ : ∃ p, encM n = p := ⟨_, rfl⟩
  rw [hE1] at k1 d1 ap hc1
  rw [hE2] at k2 ap hc2
  obtain ⟨D, hD⟩ : ∃ D, decide (m = n) = D := ⟨_, rfl⟩
  rw [hD] at sn ap
  obtain ⟨RLm, hRLm⟩ : ∃ R, rL m = R := ⟨_, rfl⟩
  obtain ⟨RJm, hRJm⟩ : ∃ R, rJ m = R := ⟨_, rfl⟩
  obtain ⟨RLn, hRLn⟩ : ∃ R, rL n = R := ⟨_, rfl⟩
  obtain ⟨RJn, hRJn⟩ : ∃ R, rJ n = R := ⟨_, rfl⟩
  rw [hRLm, hRJm] at k1 b1 sm d1 ⊢
  rw [hRLm, hRJm, hRLn, hRJn] at sn
  rw [hRLn, hRJn] at k2 b2 ⊢
  rcases hc1 with ⟨rfl, _⟩ | ⟨t1, rfl⟩
  · rcases hc2 with ⟨rfl, _⟩ | ⟨t2, rfl⟩
    · rcases decM_or s with h3 | ⟨d, h3⟩
      · rw [h3] at k3
        have k3w : FCv Try.prog 14 [ts s] (.tup [.agg [i64 0, i64 0, i64 0, i64 0, i64 0, i64 0, .sl none 2 [], i64 0, i64 0, ts [], .sl none 7 []], i64 4]) := k3
        refine FCv_of_awp (fn := Try.f5) (c := bodyC Try.f5) Try.func5 rfl (of_decide_eq_true rfl) [] ?_
        conv => whnf
        refine ⟨_, awake_law, ?_⟩
        conv => whnf
        refine ⟨_, b1, ?_⟩
        conv => whnf
        cases L1 with
        | true =>
          conv => whnf
          exact .inl rfl
        | false =>
        conv => whnf
        refine ⟨_, b2, ?_⟩
        conv => whnf
        cases L2 with
        | true =>
          conv => whnf
          exact .inl rfl
        | false =>
        conv => whnf
        rw [sizeD]
        refine br_intro (fun h1 => ?_) (fun h1 => ?_) <;> (rw [h1]; conv => whnf)
        · exact .inl rfl
        refine ⟨_, k1, ?_⟩
        conv => whnf
        refine ⟨_, k2, ?_⟩
        conv => whnf
        refine ⟨_, k3w, ?_⟩
        conv => whnf
        exact .inl rfl
      · rw [h3] at k3 hdi
        have j3 : FCv Try.prog 10 [mA d (rL d) (rJ d)] _ := menc_law d hdi
        have j4 : FCv Try.prog 12 [mA d (rL d) (rJ d)] _ := may_law d hdi
        rw [decM_enc h3] at j3
        rw [(decM_item h3).2] at j4
        dsimp only at k3 j3
        obtain ⟨RLd, hRLd⟩ : ∃ R, rL d = R := ⟨_, rfl⟩
        obtain ⟨RJd, hRJd⟩ : ∃ R, rJ d = R := ⟨_, rfl⟩
        rw [hRLd, hRJd] at k3 j3 j4
        refine FCv_of_awp (fn := Try.f5) (c := bodyC Try.f5) Try.func5 rfl (of_decide_eq_true rfl) [] ?_
        conv => whnf
        refine ⟨_, awake_law, ?_⟩
        conv => whnf
        refine ⟨_, b1, ?_⟩
        conv => whnf
        cases L1 with
        | true =>
          conv => whnf
          exact .inl rfl
        | false =>
        conv => whnf
        refine ⟨_, b2, ?_⟩
        conv => whnf
        cases L2 with
        | true =>
          conv => whnf
          exact .inl rfl
        | false =>
        conv => whnf
        rw [sizeD]
        refine br_intro (fun h1 => ?_) (fun h1 => ?_) <;> (rw [h1]; conv => whnf)
        · exact .inl rfl
        refine ⟨_, k1, ?_⟩
        conv => whnf
        refine ⟨_, k2, ?_⟩
        conv => whnf
        refine ⟨_, k3, ?_⟩
        conv => whnf
        refine ⟨_, j3, ?_⟩
        conv => whnf
        rw [strD, decide_eq_true rfl]
        conv => whnf
        refine ⟨_, j4, ?_⟩
        conv => whnf
        exact .inl rfl
    · rcases decM_or s with h3 | ⟨d, h3⟩
      · rw [h3] at k3
        have k3w : FCv Try.prog 14 [ts s] (.tup [.agg [i64 0, i64 0, i64 0, i64 0, i64 0, i64 0, .sl none 2 [], i64 0, i64 0, ts [], .sl none 7 []], i64 4]) := k3
        refine FCv_of_awp (fn := Try.f5) (c := bodyC Try.f5) Try.func5 rfl (of_decide_eq_true rfl) [] ?_
        conv => whnf
        refine ⟨_, awake_law, ?_⟩
        conv => whnf
        refine ⟨_, b1, ?_⟩
        conv => whnf
        cases L1 with
        | true =>
          conv => whnf
          exact .inl rfl
        | false =>
        conv => whnf
        refine ⟨_, b2, ?_⟩
        conv => whnf
        cases L2 with
        | true =>
          conv => whnf
          exact .inl rfl
        | false =>
        conv => whnf
        rw [sizeD]
        refine br_intro (fun h1 => ?_) (fun h1 => ?_) <;> (rw [h1]; conv => whnf)
        · exact .inl rfl
        refine ⟨_, k1, ?_⟩
        conv => whnf
        refine ⟨_, k2, ?_⟩
        conv => whnf
        refine ⟨_, k3w, ?_⟩
        conv => whnf
        exact .inl rfl
      · rw [h3] at k3 hdi
        have j3 : FCv Try.prog 10 [mA d (rL d) (rJ d)] _ := menc_law d hdi
        have j4 : FCv Try.prog 12 [mA d (rL d) (rJ d)] _ := may_law d hdi
        rw [decM_enc h3] at j3
        rw [(decM_item h3).2] at j4
        dsimp only at k3 j3
        obtain ⟨RLd, hRLd⟩ : ∃ R, rL d = R := ⟨_, rfl⟩
        obtain ⟨RJd, hRJd⟩ : ∃ R, rJ d = R := ⟨_, rfl⟩
        rw [hRLd, hRJd] at k3 j3 j4
        refine FCv_of_awp (fn := Try.f5) (c := bodyC Try.f5) Try.func5 rfl (of_decide_eq_true rfl) [] ?_
        conv => whnf
        refine ⟨_, awake_law, ?_⟩
        conv => whnf
        refine ⟨_, b1, ?_⟩
        conv => whnf
        cases L1 with
        | true =>
          conv => whnf
          exact .inl rfl
        | false =>
        conv => whnf
        refine ⟨_, b2, ?_⟩
        conv => whnf
        cases L2 with
        | true =>
          conv => whnf
          exact .inl rfl
        | false =>
        conv => whnf
        rw [sizeD]
        refine br_intro (fun h1 => ?_) (fun h1 => ?_) <;> (rw [h1]; conv => whnf)
        · exact .inl rfl
        refine ⟨_, k1, ?_⟩
        conv => whnf
        refine ⟨_, k2, ?_⟩
        conv => whnf
        refine ⟨_, k3, ?_⟩
        conv => whnf
        refine ⟨_, j3, ?_⟩
        conv => whnf
        rw [strD, decide_eq_true rfl]
        conv => whnf
        refine ⟨_, j4, ?_⟩
        conv => whnf
        exact .inl rfl
  · rcases hc2 with ⟨rfl, _⟩ | ⟨t2, rfl⟩
    · rcases decM_or s with h3 | ⟨d, h3⟩
      · rw [h3] at k3
        have k3w : FCv Try.prog 14 [ts s] (.tup [.agg [i64 0, i64 0, i64 0, i64 0, i64 0, i64 0, .sl none 2 [], i64 0, i64 0, ts [], .sl none 7 []], i64 4]) := k3
        refine FCv_of_awp (fn := Try.f5) (c := bodyC Try.f5) Try.func5 rfl (of_decide_eq_true rfl) [] ?_
        conv => whnf
        refine ⟨_, awake_law, ?_⟩
        conv => whnf
        refine ⟨_, b1, ?_⟩
        conv => whnf
        cases L1 with
        | true =>
          conv => whnf
          exact .inl rfl
        | false =>
        conv => whnf
        refine ⟨_, b2, ?_⟩
        conv => whnf
        cases L2 with
        | true =>
          conv => whnf
          exact .inl rfl
        | false =>
        conv => whnf
        rw [sizeD]
        refine br_intro (fun h1 => ?_) (fun h1 => ?_) <;> (rw [h1]; conv => whnf)
        · exact .inl rfl
        refine ⟨_, k1, ?_⟩
        conv => whnf
        refine ⟨_, k2, ?_⟩
        conv => whnf
        refine ⟨_, d1 _ rfl, ?_⟩
        conv => whnf
        refine ⟨_, sm, ?_⟩
        conv => whnf
        refine ⟨_, k3w, ?_⟩
        conv => whnf
        exact .inl rfl
      · rw [h3] at k3 hdi
        have j3 : FCv Try.prog 10 [mA d (rL d) (rJ d)] _ := menc_law d hdi
        have j4 : FCv Try.prog 12 [mA d (rL d) (rJ d)] _ := may_law d hdi
        rw [decM_enc h3] at j3
        rw [(decM_item h3).2] at j4
        dsimp only at k3 j3
        obtain ⟨RLd, hRLd⟩ : ∃ R, rL d = R := ⟨_, rfl⟩
        obtain ⟨RJd, hRJd⟩ : ∃ R, rJ d = R := ⟨_, rfl⟩
        rw [hRLd, hRJd] at k3 j3 j4
        refine FCv_of_awp (fn := Try.f5) (c := bodyC Try.f5) Try.func5 rfl (of_decide_eq_true rfl) [] ?_
        conv => whnf
        refine ⟨_, awake_law, ?_⟩
        conv => whnf
        refine ⟨_, b1, ?_⟩
        conv => whnf
        cases L1 with
        | true =>
          conv => whnf
          exact .inl rfl
        | false =>
        conv => whnf
        refine ⟨_, b2, ?_⟩
        conv => whnf
        cases L2 with
        | true =>
          conv => whnf
          exact .inl rfl
        | false =>
        conv => whnf
        rw [sizeD]
        refine br_intro (fun h1 => ?_) (fun h1 => ?_) <;> (rw [h1]; conv => whnf)
        · exact .inl rfl
        refine ⟨_, k1, ?_⟩
        conv => whnf
        refine ⟨_, k2, ?_⟩
        conv => whnf
        refine ⟨_, d1 _ rfl, ?_⟩
        conv => whnf
        refine ⟨_, sm, ?_⟩
        conv => whnf
        refine ⟨_, k3, ?_⟩
        conv => whnf
        refine ⟨_, j3, ?_⟩
        conv => whnf
        rw [strD, decide_eq_true rfl]
        conv => whnf
        refine ⟨_, j4, ?_⟩
        conv => whnf
        exact .inl rfl
    · rcases decM_or s with h3 | ⟨d, h3⟩
      · rw [h3] at k3
        have k3w : FCv Try.prog 14 [ts s] (.tup [.agg [i64 0, i64 0, i64 0, i64 0, i64 0, i64 0, .sl none 2 [], i64 0, i64 0, ts [], .sl none 7 []], i64 4]) := k3
        refine FCv_of_awp (fn := Try.f5) (c := bodyC Try.f5) Try.func5 rfl (of_decide_eq_true rfl) [] ?_
        conv => whnf
        refine ⟨_, awake_law, ?_⟩
        conv => whnf
        refine ⟨_, b1, ?_⟩
        conv => whnf
        cases L1 with
        | true =>
          conv => whnf
          exact .inl rfl
        | false =>
        conv => whnf
        refine ⟨_, b2, ?_⟩
        conv => whnf
        cases L2 with
        | true =>
          conv => whnf
          exact .inl rfl
        | false =>
        conv => whnf
        rw [sizeD]
        refine br_intro (fun h1 => ?_) (fun h1 => ?_) <;> (rw [h1]; conv => whnf)
        · exact .inl rfl
        refine ⟨_, k1, ?_⟩
        conv => whnf
        refine ⟨_, k2, ?_⟩
        conv => whnf
        refine ⟨_, d1 _ rfl, ?_⟩
        conv => whnf
        refine ⟨_, sm, ?_⟩
        conv => whnf
        rw [strD, ap _ _ rfl rfl]
        refine ⟨_, sn, ?_⟩
        conv => whnf
        rw [show (D == D) = true from beq_self_eq_true D]
        conv => whnf
        refine ⟨_, k3w, ?_⟩
        conv => whnf
        exact .inl rfl
      · rw [h3] at k3 hdi
        have j3 : FCv Try.prog 10 [mA d (rL d) (rJ d)] _ := menc_law d hdi
        have j4 : FCv Try.prog 12 [mA d (rL d) (rJ d)] _ := may_law d hdi
        rw [decM_enc h3] at j3
        rw [(decM_item h3).2] at j4
        dsimp only at k3 j3
        obtain ⟨RLd, hRLd⟩ : ∃ R, rL d = R := ⟨_, rfl⟩
        obtain ⟨RJd, hRJd⟩ : ∃ R, rJ d = R := ⟨_, rfl⟩
        rw [hRLd, hRJd] at k3 j3 j4
        refine FCv_of_awp (fn := Try.f5) (c := bodyC Try.f5) Try.func5 rfl (of_decide_eq_true rfl) [] ?_
        conv => whnf
        refine ⟨_, awake_law, ?_⟩
        conv => whnf
        refine ⟨_, b1, ?_⟩
        conv => whnf
        cases L1 with
        | true =>
          conv => whnf
          exact .inl rfl
        | false =>
        conv => whnf
        refine ⟨_, b2, ?_⟩
        conv => whnf
        cases L2 with
        | true =>
          conv => whnf
          exact .inl rfl
        | false =>
        conv => whnf
        rw [sizeD]
        refine br_intro (fun h1 => ?_) (fun h1 => ?_) <;> (rw [h1]; conv => whnf)
        · exact .inl rfl
        refine ⟨_, k1, ?_⟩
        conv => whnf
        refine ⟨_, k2, ?_⟩
        conv => whnf
        refine ⟨_, d1 _ rfl, ?_⟩
        conv => whnf
        refine ⟨_, sm, ?_⟩
        conv => whnf
        rw [strD, ap _ _ rfl rfl]
        refine ⟨_, sn, ?_⟩
        conv => whnf
        rw [show (D == D) = true from beq_self_eq_true D]
        conv => whnf
        refine ⟨_, k3, ?_⟩
        conv => whnf
        refine ⟨_, j3, ?_⟩
        conv => whnf
        rw [strD, decide_eq_true rfl]
        conv => whnf
        refine ⟨_, j4, ?_⟩
        conv => whnf
        exact .inl rfl
end Go.AW.Ml

/- Mails: a byte that is turned. -/
set_option linter.unusedVariables false
set_option linter.unusedSimpArgs false
namespace Go.AW.Ml
open Go Go.AW Go.AW.Wir Go.AW.Cm Go.Proofs
set_option maxRecDepth 40000
set_option pp.maxSteps 60

theorem xor_u8 (c v : UInt8) : bitsI .xor .u8 (c.toNat : Int) (v.toNat : Int) = ((c ^^^ v).toNat : Int) := xor8 c.toBitVec v.toBitVec
theorem turned_law (m : Mail) (hm : inM m) (at' : Int) (ha0 : 0 ≤ at') (ha1 : at' ≤ 65535) (v : UInt8) : FCv Try.prog 7 [.agg (mC m), .lit (.int .u16 at'), .lit (.int .u8 v.toNat)] (tb true) := by
  have k1 : FCv Try.prog 10 [mA m (rL m) (rJ m)] _ := menc_law m hm
  have b1 : FCv Try.prog 9 [mA m (rL m) (rJ m)] _ := large_law m hm
  have m1 : FCv Try.prog 12 [mA m (rL m) (rJ m)] _ := may_law m hm
  have q1 := @encM_ne m
  have q2 := @encM_len m
  have q3 := fun B (h : decM B = (m, 0)) => decM_enc h
  have q4 : ∀ d, inM d → FCv Try.prog 16 [mA m (rL m) (rJ m), mA d (rL d) (rJ d)] (tb (decide (m = d))) := fun d hd => same_law m d hm hd
  have hc := encM_cases m
  obtain ⟨E, hE⟩ : ∃ p, encM m = p := ⟨_, rfl⟩
  rw [hE] at k1 q1 q2 hc q3
  show FCv _ _ [mA m (rL m) (rJ m), _, _] _
  obtain ⟨RL, hRL⟩ : ∃ R, rL m = R := ⟨_, rfl⟩
  obtain ⟨RJ, hRJ⟩ : ∃ R, rJ m = R := ⟨_, rfl⟩
  rw [hRL, hRJ] at k1 b1 m1 q4 ⊢
  obtain ⟨L, hL⟩ : ∃ p, largeM m = p := ⟨_, rfl⟩
  rw [hL] at b1
  rcases hc with ⟨rfl, hm0⟩ | ⟨b, rfl⟩
  · rw [hm0] at m1
    refine FCv_of_awp (fn := Try.f7) (c := bodyC Try.f7) Try.func7 rfl (of_decide_eq_true rfl) [31] ?_
    conv => whnf
    refine ⟨_, awake_law, ?_⟩
    conv => whnf
    refine ⟨_, b1, ?_⟩
    conv => whnf
    cases L with
    | true =>
      conv => whnf
      exact .inl rfl
    | false =>
    conv => whnf
    by_cases z2 : (v.toNat : Int) = 0
    · rw [bq z2]
      conv => whnf
      exact .inl rfl
    rw [bn z2]
    conv => whnf
    refine ⟨_, k1, ?_⟩
    conv => whnf
    refine ⟨_, m1, ?_⟩
    conv => whnf
    exact .inl rfl
  dsimp only at k1
  have hb0 := q1 hm rfl
  have hlen := q2 rfl
  obtain ⟨k, hk⟩ : ∃ k : Nat, (IntKind.i64.wrap at').tmod (b.length : Int) = (k : Int) := by
    rw [wrap_i64 at' (by omega) (by omega), Int.tmod_eq_emod_of_nonneg ha0]
    exact ⟨(at' % (b.length : Int)).toNat, (Int.toNat_of_nonneg (Int.emod_nonneg _ (by omega))).symm⟩
  have hkl : k < b.length := by
    have := Int.tmod_lt_of_pos (IntKind.i64.wrap at') (show (0 : Int) < b.length by omega)
    omega
  refine FCv_of_awp (fn := Try.f7) (c := bodyC Try.f7) Try.func7 rfl (of_decide_eq_true rfl) [31] ?_
  conv => whnf
  refine ⟨_, awake_law, ?_⟩
  conv => whnf
  refine ⟨_, b1, ?_⟩
  conv => whnf
  cases L with
  | true =>
    conv => whnf
    exact .inl rfl
  | false =>
  conv => whnf
  by_cases z2 : (v.toNat : Int) = 0
  · rw [bq z2]
    conv => whnf
    exact .inl rfl
  rw [bn z2]
  conv => whnf
  refine ⟨_, k1, ?_⟩
  conv => whnf
  have hd : ({ data := b.toArray } : ByteArray).data.toList = b := rfl
  rw [sizeD]
  refine ⟨by omega, ?_⟩
  conv => whnf
  rw [hk]
  try rw [hd]
  refine ⟨⟨by omega, by omega⟩, ?_⟩
  conv => whnf
  rw [Int.toNat_natCast, show nth (bytesR b) (0 + k) = some [.lit (.int .u8 (b[k]).toNat)] from by rw [nth_eq, Nat.zero_add]; exact bytes_get (List.getElem?_eq_getElem hkl)]
  conv => whnf
  refine ⟨⟨by omega, by omega⟩, ?_⟩
  conv => whnf
  rw [Int.toNat_natCast, show nth (bytesR b) (0 + k) = some [.lit (.int .u8 (b[k]).toNat)] from by rw [nth_eq, Nat.zero_add]; exact bytes_get (List.getElem?_eq_getElem hkl)]
  conv => whnf
  rw [xor_u8]
  have hset : (bytesR b).set (0 + k) (spl [T.lit (Value.int IntKind.u8 ((b[k]).toNat : Int))] 0 (cellsT (T.lit (Value.int IntKind.u8 ((b[k] ^^^ v).toNat : Int))))) = bytesR (b.set k (b[k] ^^^ v)) := by
    rw [Nat.zero_add]
    exact bytesR_setB b k (b[k] ^^^ v)
  rw [hset]
  have hne : b.set k (b[k] ^^^ v) ≠ b := by
    intro e
    have h1 : (b.set k (b[k] ^^^ v))[k]? = b[k]? := by rw [e]
    rw [List.getElem?_set_self hkl, List.getElem?_eq_getElem hkl, Option.some.injEq] at h1
    have h2 : v = 0 := by
      have h3 := congrArg (fun z => b[k] ^^^ z) h1
      simpa [← UInt8.xor_assoc] using h3
    exact z2 (by rw [h2]; rfl)
  have hls : (b.set k (b[k] ^^^ v)).length = b.length := List.length_set
  obtain ⟨B, hB⟩ : ∃ B, b.set k (b[k] ^^^ v) = B := ⟨_, rfl⟩
  rw [hB] at hne hls ⊢
  have kd := mdec_law B (by omega)
  have kin := decM_in B
  refine ⟨by rw [bytesR_len, hls]; omega, ?_⟩
  conv => whnf
  refine ⟨B, ⟨rfl, by rw [List.drop_zero, List.take_of_length_le (by rw [bytesR_len, hls]; omega)]⟩, ?_⟩
  conv => whnf
  rcases decM_or B with hd | ⟨d, hd⟩
  · rw [hd] at kd
    have kd' : FCv Try.prog 14 [ts B] (.tup [.agg [i64 0, i64 0, i64 0, i64 0, i64 0, i64 0, .sl none 2 [], i64 0, i64 0, ts [], .sl none 7 []], i64 4]) := kd
    refine ⟨_, kd', ?_⟩
    conv => whnf
    exact .inl rfl
  · have hdm := (decM_item hd).2
    rw [hd] at kd kin
    have m2 : FCv Try.prog 12 [mA d (rL d) (rJ d)] _ := may_law d kin
    rw [hdm] at m2
    have hdc : ¬ m = d := by
      rintro rfl
      exact hne (congrArg Prod.fst (q3 B hd)).symm
    have sd := q4 d kin
    rw [decide_eq_false hdc] at sd
    have kd' : FCv Try.prog 14 [ts B] (.tup [mA d (rL d) (rJ d), i64 0]) := kd
    obtain ⟨RLd, hRLd⟩ : ∃ R, rL d = R := ⟨_, rfl⟩
    obtain ⟨RJd, hRJd⟩ : ∃ R, rJ d = R := ⟨_, rfl⟩
    rw [hRLd, hRJd] at kd' sd m2
    refine ⟨_, kd', ?_⟩
    conv => whnf
    refine ⟨_, sd, ?_⟩
    conv => whnf
    refine ⟨_, m2, ?_⟩
    conv => whnf
    exact .inl rfl
theorem MailTurned_law (m : Mail) (at' turn : Int) (hc : inM m) (ha0 : IntKind.u16.min ≤ at') (ha1 : at' ≤ IntKind.u16.max) (ht0 : IntKind.u8.min ≤ turn) (ht1 : turn ≤ IntKind.u8.max) :
    FCv Try.prog 7 [.agg (mC m), .lit (.int .u16 at'), .lit (.int .u8 turn)] (tb true) := by
  have a0 : (0 : Int) ≤ at' := ha0
  have a1 : at' ≤ 65535 := ha1
  have b0 : (0 : Int) ≤ turn := ht0
  have b1 : turn ≤ 255 := ht1
  have e : turn = ((UInt8.ofNat turn.toNat).toNat : Int) := by rw [UInt8.toNat_ofNat']; omega
  rw [e]
  exact turned_law m hc at' a0 a1 _
theorem MailCuts_law (m : Mail) (at' : Int) (hc : inM m) (ha0 : IntKind.u16.min ≤ at') (ha1 : at' ≤ IntKind.u16.max) : FCv Try.prog 6 [.agg (mC m), .lit (.int .u16 at')] (tb true) :=
  MailCuts_law0 m hc at' ha0 ha1
theorem strLen (b : ByteArray) (h : b.size ≤ reachBytes) : b.data.toList.length ≤ 140737488351232 := by
  have : reachBytes = 140737488351232 := rfl
  rw [Array.length_toList]
  have : b.data.size = b.size := rfl
  omega
theorem MailDecodes_row (b : ByteArray) (h : b.size ≤ reachBytes) : FCv Try.prog 4 [.lit (.string b)] (tb true) := MailDecodes_law b.data.toList (strLen b h)
theorem MailBack_row (m n : Mail) (b : ByteArray) (hm : inM m) (hn : inM n) (h : b.size ≤ reachBytes) : FCv Try.prog 5 [.agg (mC m), .agg (mC n), .lit (.string b)] (tb true) := MailBack_law m n b.data.toList hm hn (strLen b h)
end Go.AW.Ml

/- Mails, as arguments. -/
set_option linter.unusedVariables false
set_option linter.unusedSimpArgs false
namespace Go.AW.Ml
open Go Go.AW Go.AW.Wir Go.AW.Cm Go.Proofs
set_option maxRecDepth 10000
set_option pp.maxSteps 60

section
variable {H : Type} {enc : TypeId × Value → H} {w : World}
theorem rd_vec : Rd enc Try.prog w 51 (fun v : V => vR v) inVec := Rd.vec Try.underlying51 (by kernel_rfl) (by kernel_rfl) Try.underlying2
theorem bsz (b : ByteArray) (hb : b.size ≤ reachBytes) : b.data.toList.length ≤ 140737488351232 := strLen b hb
theorem rd_ent : Rd enc Try.prog w 43 (fun x : Entry => eC x) inE := fun n => match n with
  | 0 => RdN.zero
  | n + 1 => by
    refine RdN.conv (RdN.struct (len := 2) Try.underlying43 (by kernel_rfl)
      (RdFs.cons (sz := 1) rfl (by kernel_rfl) (RdN.of (Rd.int Try.underlying2))
      (RdFs.cons (sz := 1) rfl (by kernel_rfl) (RdN.of (Rd.string Try.underlying9)) RdFs.nil))) ?_
    rintro ⟨t, s, u⟩ ⟨h1, h2, _⟩
    exact ⟨⟨t, s.data.toList⟩, ⟨h1, bsz _ h2⟩, rfl⟩
theorem rd_job : Rd enc Try.prog w 53 (fun x : Job => jC x) inJ := fun n => match n with
  | 0 => RdN.zero
  | n + 1 => by
    refine RdN.conv (RdN.struct (len := 7) Try.underlying53 (by kernel_rfl)
      (RdFs.cons (sz := 1) rfl (by kernel_rfl) (RdN.of (Rd.string Try.underlying9))
      (RdFs.cons (sz := 1) rfl (by kernel_rfl) (RdN.of (Rd.string Try.underlying9))
      (RdFs.cons (sz := 3) rfl (by kernel_rfl) (RdN.of rd_vec)
      (RdFs.cons (sz := 1) rfl (by kernel_rfl) (RdN.of (Rd.string Try.underlying9))
      (RdFs.cons (sz := 1) rfl (by kernel_rfl) (RdN.of (Rd.int Try.underlying2)) RdFs.nil)))))) ?_
    rintro ⟨a, b, v, c, k, u⟩ ⟨h1, h2, h3, h4, h5, _⟩
    exact ⟨⟨a.data.toList, b.data.toList, v, c.data.toList, k⟩, ⟨bsz _ h1, bsz _ h2, h3, bsz _ h4, h5⟩, rfl⟩
theorem rd_snap : Rd enc Try.prog w 24 (fun x : Int × Int × List UInt8 => [i64 x.1, i64 x.2.1, ts x.2.2]) (fun x => in64 x.1 ∧ in64 x.2.1 ∧ x.2.2.length ≤ 140737488351232) := fun n => match n with
  | 0 => RdN.zero
  | n + 1 => by
    refine RdN.conv (RdN.struct (len := 3) Try.underlying24 (by kernel_rfl)
      (RdFs.cons (sz := 1) rfl (by kernel_rfl) (RdN.of (Rd.int Try.underlying2))
      (RdFs.cons (sz := 1) rfl (by kernel_rfl) (RdN.of (Rd.int Try.underlying2))
      (RdFs.cons (sz := 1) rfl (by kernel_rfl) (RdN.of (Rd.string Try.underlying9)) RdFs.nil)))) ?_
    rintro ⟨a, b, s, u⟩ ⟨h1, h2, h3, _⟩
    exact ⟨(a, b, s.data.toList), ⟨h1, h2, bsz _ h3⟩, rfl⟩
theorem rd_mail : Rd enc Try.prog w 27 mC inM := fun n => match n with
  | 0 => RdN.zero
  | n + 1 => by
    refine RdN.conv (RdN.struct (len := 11) Try.underlying27 (by kernel_rfl)
      (RdFs.cons (sz := 1) rfl (by kernel_rfl) (RdN.of (Rd.int Try.underlying3))
      (RdFs.cons (sz := 1) rfl (by kernel_rfl) (RdN.of (Rd.int Try.underlying2))
      (RdFs.cons (sz := 1) rfl (by kernel_rfl) (RdN.of (Rd.int Try.underlying2))
      (RdFs.cons (sz := 1) rfl (by kernel_rfl) (RdN.of (Rd.int Try.underlying2))
      (RdFs.cons (sz := 1) rfl (by kernel_rfl) (RdN.of (Rd.int Try.underlying2))
      (RdFs.cons (sz := 1) rfl (by kernel_rfl) (RdN.of (Rd.int Try.underlying2))
      (RdFs.cons (sz := 1) rfl (by kernel_rfl) (RdN.of (Rd.slice (E := fun x : Entry => eC x) Try.underlying22 (sz := 2) (by kernel_rfl) (by decide) rd_ent))
      (RdFs.cons (sz := 3) rfl (by kernel_rfl) (RdN.of rd_snap)
      (RdFs.cons (sz := 1) rfl (by kernel_rfl) (RdN.of (Rd.slice (E := fun x : Job => jC x) Try.underlying25 (sz := 7) (by kernel_rfl) (by decide) rd_job)) RdFs.nil)))))))))) ?_
    rintro ⟨k, t, a, b, c, d, l, s, j, u⟩ ⟨h1, h2, h3, h4, h5, h6, ⟨h7, h8⟩, ⟨h9, h10, h11⟩, ⟨h12, h13⟩, _⟩
    change l.length * Try.prog.bytesOf 43 ≤ _ at h8
    change j.length * Try.prog.bytesOf 53 ≤ _ at h13
    rw [show Try.prog.bytesOf 43 = 24 from by kernel_rfl] at h8
    rw [show Try.prog.bytesOf 53 = 80 from by kernel_rfl] at h13
    have : reachBytes = 140737488351232 := rfl
    exact ⟨⟨k, t, a, b, c, d, l, s.1, s.2.1, s.2.2, j⟩, ⟨h1, h2, ⟨h3, h4, h5, h6⟩, ⟨by show l.length ≤ _; omega, h7⟩, ⟨h9, h10, h11⟩, by show j.length ≤ _; omega, h12⟩, rfl⟩
end
end Go.AW.Ml
