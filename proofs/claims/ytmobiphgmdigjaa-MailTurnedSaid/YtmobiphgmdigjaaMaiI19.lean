import Derived.Test.YtmobiphgmdigjaaMaiI7
import Derived.Test.YtmobiphgmdigjaaMaiI16
import Derived.Test.YtmobiphgmdigjaaWirP1
import Derived.Test.YtmobiphgmdigjaaAw27
/- The wire: the reference's encoding, walked. -/
set_option linter.unusedVariables false
set_option linter.unusedSimpArgs false
namespace Go.AW.Wir
open Go Go.AW Go.Proofs
set_option maxRecDepth 10000
set_option pp.maxSteps 60

theorem inIs_get {l : List It} {j : Nat} (h : inIs l) (hj : j < l.length) : inI l[j] := inIs_mem h (List.getElem_mem hj)
theorem sizeD (s : List UInt8) : ByteArray.size ⟨s.toArray⟩ = s.length := by simp [ByteArray.size]
def BigOk (i : It) : Prop := inI i → FCv Try.prog 45 [itT i] (tb (bigI i))
theorem rtexts_mk (k n : Int) (s : List UInt8) (l : List It) (ih : ∀ i ∈ l, BigOk i) : BigOk (.mk k n s l) := by
  intro hin
  rw [inI] at hin
  rw [itT_mk, bigI]
  obtain ⟨R, hR⟩ : ∃ R, ((k == 2 && decide (4096 < s.length)) || bigL l) = R := ⟨_, rfl⟩
  rw [hR]
  refine FCv_of_awp (fn := Try.f45) (c := bodyC Try.f45) Try.func45 rfl (of_decide_eq_true rfl) [] ?_
  conv => whnf
  by_cases hk : k = 2
  · rw [bq hk]
    conv => whnf
    rw [sizeD]
    refine br_intro (fun h => ?_) (fun h => ?_) <;> (rw [h]; conv => whnf)
    · refine .inl (congrArg tb ?_)
      rw [← hR, hk, decide_eq_true (by have := of_decide_eq_true h; omega : 4096 < s.length)]
      rfl
    have hbig : R = bigL l := by
      rw [← hR, decide_eq_false (by have := of_decide_eq_false h; omega : ¬ 4096 < s.length), Bool.and_false, Bool.false_or]
    refine loop_intro (fun y : { j : Nat // j ≤ l.length ∧ bigL l = bigL (l.drop j) } =>
      ⟨[(1, .ptr 0 0 0), (3, i64 (y.1 : Nat))], [(0, .own 4 [[i64 k, i64 n, str s, .sl none 4 (itR l)]])], 26, 1, []⟩) (fun y => l.length - y.1) ⟨0, Nat.zero_le _, rfl⟩ ?_ ?_
    · exact Wk.intro [] rfl (fun p hp => by cases hp) ⟨.same rfl (by exact rfl), .same rfl trivial, trivial⟩ ⟨⟨rfl, .inl ⟨rfl, it_row _ _ _ _ _⟩⟩, trivial⟩
    rintro ⟨j, g1, g2⟩
    dsimp only at g1 g2 ⊢
    conv => whnf
    refine br_intro (fun h1 => ?_) (fun h1 => ?_) <;> (rw [h1]; conv => whnf) <;> rw [itR_len] at h1
    · have hj : j < l.length := by have := of_decide_eq_true h1; omega
      refine ⟨by omega, nthK_intro (itR_get (List.getElem?_eq_getElem hj)) ?_⟩
      conv => whnf
      refine ⟨_, ih l[j] (List.getElem_mem hj) (inIs_get hin.2 hj), ?_⟩
      rw [bigL_drop hj] at g2
      cases hb : bigI l[j] with
      | true =>
        conv => whnf
        exact .inl (congrArg tb (by rw [hbig, g2, hb]; rfl))
      | false =>
        conv => whnf
        rw [hb, Bool.false_or] at g2
        refine Nx.intro ⟨j + 1, hj, g2⟩ (by dsimp only; omega) ?_
        exact Wk.intro [] rfl (fun p hp => by cases hp) ⟨.same rfl (by exact rfl), .same (congrArg i64 (by rw [wrap_i64 _ (by omega) (by omega)]; rfl)) trivial, trivial⟩ ⟨⟨rfl, .inl ⟨rfl, it_row _ _ _ _ _⟩⟩, trivial⟩
    · obtain rfl : j = l.length := by have := of_decide_eq_false h1; omega
      rw [List.drop_length, bigL] at g2
      exact .inl (congrArg tb (by rw [hbig, g2]))
  · rw [bn hk]
    conv => whnf
    have hbig : R = bigL l := by
      rw [← hR, show (k == 2) = false from beq_eq_false_iff_ne.2 hk, Bool.false_and, Bool.false_or]
    refine loop_intro (fun y : { j : Nat // j ≤ l.length ∧ bigL l = bigL (l.drop j) } =>
      ⟨[(1, .ptr 0 0 0), (3, i64 (y.1 : Nat))], [(0, .own 4 [[i64 k, i64 n, str s, .sl none 4 (itR l)]])], 26, 1, []⟩) (fun y => l.length - y.1) ⟨0, Nat.zero_le _, rfl⟩ ?_ ?_
    · exact Wk.intro [] rfl (fun p hp => by cases hp) ⟨.same rfl (by exact rfl), .same rfl trivial, trivial⟩ ⟨⟨rfl, .inl ⟨rfl, it_row _ _ _ _ _⟩⟩, trivial⟩
    rintro ⟨j, g1, g2⟩
    dsimp only at g1 g2 ⊢
    conv => whnf
    refine br_intro (fun h1 => ?_) (fun h1 => ?_) <;> (rw [h1]; conv => whnf) <;> rw [itR_len] at h1
    · have hj : j < l.length := by have := of_decide_eq_true h1; omega
      refine ⟨by omega, nthK_intro (itR_get (List.getElem?_eq_getElem hj)) ?_⟩
      conv => whnf
      refine ⟨_, ih l[j] (List.getElem_mem hj) (inIs_get hin.2 hj), ?_⟩
      rw [bigL_drop hj] at g2
      cases hb : bigI l[j] with
      | true =>
        conv => whnf
        exact .inl (congrArg tb (by rw [hbig, g2, hb]; rfl))
      | false =>
        conv => whnf
        rw [hb, Bool.false_or] at g2
        refine Nx.intro ⟨j + 1, hj, g2⟩ (by dsimp only; omega) ?_
        exact Wk.intro [] rfl (fun p hp => by cases hp) ⟨.same rfl (by exact rfl), .same (congrArg i64 (by rw [wrap_i64 _ (by omega) (by omega)]; rfl)) trivial, trivial⟩ ⟨⟨rfl, .inl ⟨rfl, it_row _ _ _ _ _⟩⟩, trivial⟩
    · obtain rfl : j = l.length := by have := of_decide_eq_false h1; omega
      rw [List.drop_length, bigL] at g2
      exact .inl (congrArg tb (by rw [hbig, g2]))
theorem rtexts_law : ∀ i : It, BigOk i
  | .mk k n s l =>
    have ih : ∀ i ∈ l, BigOk i := fun i hi => rtexts_law i
    rtexts_mk k n s l ih
termination_by i => SizeOf.sizeOf i
decreasing_by
  have := List.sizeOf_lt_of_mem hi
  simp only [It.mk.sizeOf_spec]
  omega

theorem emptyD (s : List UInt8) : (ByteArray.toList ⟨s.toArray⟩ == ByteArray.toList ⟨#[]⟩) = decide (s = []) := by
  rw [empty_eq, Bool.eq_iff_iff, List.isEmpty_iff, decide_eq_true_eq]
def FormOk (i : It) : Prop := inI i → FCv Try.prog 46 [itT i] (tb (formB i))
theorem rformed_mk (k n : Int) (s : List UInt8) (l : List It) (ih : ∀ i ∈ l, FormOk i) : FormOk (.mk k n s l) := by
  intro hin
  rw [inI] at hin
  rw [itT_mk]
  have hlen : decide (((l.length : Nat) : Int) = 0) = decide (l = []) := decide_eq_decide.2 (by rw [← List.length_eq_zero_iff]; omega)
  refine FCv_of_awp (fn := Try.f46) (c := bodyC Try.f46) Try.func46 rfl (of_decide_eq_true rfl) [] ?_
  conv => whnf
  by_cases k1 : k = 1
  · rw [bq k1]
    subst k1
    rw [formB_num]
    conv => whnf
    by_cases hs : s = []
    · rw [emptyD, decide_eq_true hs]
      conv => whnf
      by_cases hl : l = []
      · subst hl
        exact .inl (congrArg tb (by rw [decide_eq_true ⟨hs, rfl⟩]; rfl))
      · rw [bn (by rw [itR_len]; intro e; exact hl (List.length_eq_zero_iff.1 (by omega)))]
        exact .inl (congrArg tb (decide_eq_false (fun e => hl e.2)).symm)
    · rw [be hs]
      conv => whnf
      exact .inl (congrArg tb (decide_eq_false (fun e => hs e.1)).symm)
  rw [bn k1]
  conv => whnf
  by_cases k2 : k = 2
  · rw [bq k2]
    subst k2
    rw [formB_txt]
    conv => whnf
    by_cases hs : n = 0
    · rw [bq hs]
      conv => whnf
      by_cases hl : l = []
      · subst hl
        exact .inl (congrArg tb (by rw [decide_eq_true ⟨hs, rfl⟩]; rfl))
      · rw [bn (by rw [itR_len]; intro e; exact hl (List.length_eq_zero_iff.1 (by omega)))]
        exact .inl (congrArg tb (decide_eq_false (fun e => hl e.2)).symm)
    · rw [bn hs]
      conv => whnf
      exact .inl (congrArg tb (decide_eq_false (fun e => hs e.1)).symm)
  rw [bn k2]
  conv => whnf
  by_cases k3 : k = 3
  · rw [bq k3]
    subst k3
    rw [formB_lst]
    conv => whnf
    refine loop_intro (fun y : { j : Nat // j ≤ l.length ∧ formL l = formL (l.drop j) } =>
      ⟨[(1, .ptr 0 0 0), (3, i64 (y.1 : Nat))], [(0, .own 4 [[i64 3, i64 n, str s, .sl none 4 (itR l)]])], 52, 1, []⟩) (fun y => l.length - y.1) ⟨0, Nat.zero_le _, rfl⟩ ?_ ?_
    · exact Wk.intro [] rfl (fun p hp => by cases hp) ⟨.same rfl (by exact rfl), .same rfl trivial, trivial⟩ ⟨⟨rfl, .inl ⟨rfl, it_row _ _ _ _ _⟩⟩, trivial⟩
    rintro ⟨j, g1, g2⟩
    dsimp only at g1 g2 ⊢
    conv => whnf
    refine br_intro (fun h1 => ?_) (fun h1 => ?_) <;> (rw [h1]; conv => whnf) <;> rw [itR_len] at h1
    · have hj : j < l.length := by have := of_decide_eq_true h1; omega
      refine ⟨by omega, nthK_intro (itR_get (List.getElem?_eq_getElem hj)) ?_⟩
      conv => whnf
      refine ⟨_, ih l[j] (List.getElem_mem hj) (inIs_get hin.2 hj), ?_⟩
      rw [formL_drop hj] at g2
      cases hb : formB l[j] with
      | true =>
        conv => whnf
        rw [hb, Bool.true_and] at g2
        refine Nx.intro ⟨j + 1, hj, g2⟩ (by dsimp only; omega) ?_
        exact Wk.intro [] rfl (fun p hp => by cases hp) ⟨.same rfl (by exact rfl), .same (congrArg i64 (by rw [wrap_i64 _ (by omega) (by omega)]; rfl)) trivial, trivial⟩ ⟨⟨rfl, .inl ⟨rfl, it_row _ _ _ _ _⟩⟩, trivial⟩
      | false =>
        conv => whnf
        exact .inl (congrArg tb (by rw [g2, hb]; rfl))
    · obtain rfl : j = l.length := by have := of_decide_eq_false h1; omega
      rw [List.drop_length, formL_nil] at g2
      rw [g2, Bool.true_and]
      by_cases hn : n = 0
      · rw [bq hn]
        conv => whnf
        rw [emptyD]
        exact .inl (congrArg tb (decide_eq_decide.2 ⟨fun e => ⟨hn, e⟩, fun e => e.2⟩))
      · rw [bn hn]
        conv => whnf
        exact .inl (congrArg tb (decide_eq_false (fun e => hn e.1)).symm)
  rw [bn k3]
  conv => whnf
  exact .inl (congrArg tb (formB_no n s l k1 k2 k3).symm)
theorem rformed_law : ∀ i : It, FormOk i
  | .mk k n s l =>
    have ih : ∀ i ∈ l, FormOk i := fun i hi => rformed_law i
    rformed_mk k n s l ih
termination_by i => SizeOf.sizeOf i
decreasing_by
  have := List.sizeOf_lt_of_mem hi
  simp only [It.mk.sizeOf_spec]
  omega
end Go.AW.Wir

/- The wire: the reference's bytes, walked. -/
set_option linter.unusedVariables false
set_option linter.unusedSimpArgs false
namespace Go.AW.Wir
open Go Go.AW Go.Proofs
set_option maxRecDepth 10000
set_option pp.maxSteps 60

theorem rcnt_law (b : List UInt8) (hb : b.length ≤ 1000000000) (n : Nat) (hn : n < 18446744073709551616) : FCm Try.prog 60 [.sl (some 0) 1 (bytesR b), u64 n] (tkM b) 1 (.sl (some 0) 1 (bytesR (b ++ cntB n))) (tkM (b ++ cntB n)) := by
  refine FCm_of_awp (fn := Try.f60) (c := bodyC Try.f60) Try.func60 rfl (of_decide_eq_true rfl) [2000001] rfl ?_
  conv => whnf
  refine loop_intro (fun y : { p : Nat × Nat // p.1 ≤ 8 ∧ p.2 < 256 ^ (8 - p.1) ∧ p.1 + (leF (8 - p.1) p.2).length = (le n).length } =>
    ⟨[(0, .sl (some 0) 1 (bytesR b)), (1, u64 n), (5, i64 (y.1.1 : Nat)), (6, u64 y.1.2)], [(0, .tok 1 b.length)], 43, 1, [2000001]⟩) (fun y => y.1.2) ⟨(0, n), Nat.zero_le _, hn, by dsimp only; rw [Nat.zero_add]; rfl⟩ ?_ ?_
  · exact Wk.intro [] rfl (fun p hp => by cases hp) ⟨.same rfl (by exact rfl), .same rfl trivial, .same rfl trivial, .same rfl trivial, trivial⟩ ⟨⟨rfl, .inl ⟨rfl, trivial⟩⟩, trivial⟩
  rintro ⟨⟨k, m⟩, g1, g2, g3⟩
  dsimp only at g1 g2 g3 ⊢
  conv => whnf
  refine br_intro (fun h => ?_) (fun h => ?_) <;> (rw [h]; conv => whnf)
  · have hm : m ≠ 0 := by have := of_decide_eq_true h; omega
    obtain ⟨f, hf⟩ : ∃ f, 8 - k = f + 1 := by
      cases e : 8 - k with
      | zero => rw [e] at g2; exact absurd g2 (by omega)
      | succ f => exact ⟨f, rfl⟩
    refine ⟨by decide, ?_⟩
    conv => whnf
    have hm64 : m < 18446744073709551616 := Nat.lt_of_lt_of_le g2 (show 256 ^ (8 - k) ≤ 256 ^ 8 from Nat.pow_le_pow_right (by decide) (by omega))
    rw [hf, leF_pos hm, List.length_cons] at g3
    rw [hf, Nat.pow_succ, Nat.mul_comm] at g2
    refine Nx.intro ⟨(k + 1, m / 256), by dsimp only; omega, ?_, ?_⟩ (by dsimp only; omega) ?_
    · dsimp only
      rw [show 8 - (k + 1) = f by omega]
      exact Nat.div_lt_of_lt_mul g2
    · dsimp only
      rw [show 8 - (k + 1) = f by omega]
      omega
    · exact Wk.intro [] rfl (fun p hp => by cases hp) ⟨.same rfl (by exact rfl), .same rfl trivial, .same (congrArg i64 (by rw [wrap_i64 _ (by omega) (by omega)]; rfl)) trivial, .same (congrArg (fun z => T.lit (.int .u64 z)) (by rw [Int.tdiv_eq_ediv_of_nonneg (by omega), wrap_u64m]; show (m : Int) / 256 % _ = ((m / 256 : Nat) : Int); omega)) trivial, trivial⟩ ⟨⟨rfl, .inl ⟨rfl, trivial⟩⟩, trivial⟩
  · obtain rfl : m = 0 := by have := of_decide_eq_false h; omega
    rw [leF_nil] at g3
    have hk : k = (le n).length := g3
    have hget := leF_get 8 n
    change ∀ j, j < (le n).length → (le n)[j]? = _ at hget
    unfold cntB
    obtain ⟨L, hL⟩ : ∃ L, le n = L := ⟨_, rfl⟩
    rw [hL] at hk hget ⊢
    subst hk
    have nb : (Try.prog.types[5]).bytes = 1 := rfl
    refine ⟨bytesR_len _, by rw [nb, bytesR_len]; show (b.length + 1) * 1 ≤ _; omega, by rw [bytesR_len]; show b.length + 1 ≤ _; omega, ?_⟩
    conv => whnf
    have hrow0 : bytesR b ++ [[T.lit (.int .u8 (IntKind.u8.wrap ((L.length : Nat) : Int)))]] = bytesR (b ++ UInt8.ofNat L.length :: (L.drop L.length).reverse) := by
      rw [toU8n, List.drop_length, ← bytesR_append]; rfl
    refine loop_intro (fun y : Fin (L.length + 1) =>
      ⟨[(0, .sl (some 0) 1 (bytesR (b ++ UInt8.ofNat L.length :: (L.drop y.1).reverse))), (1, u64 n), (7, i64 ((y.1 : Int) - 1))], [(0, .tok 1 (b.length + 1 + (L.length - y.1)))], 43, 1, [2000001]⟩) (fun y => y.1) ⟨L.length, by omega⟩ ?_ ?_
    · refine Wk.intro [] rfl (fun p hp => by cases hp) ⟨.same (congrArg (T.sl (some 0) 1) hrow0) (by exact rfl), .same rfl trivial, .same (congrArg i64 ?_) trivial, trivial⟩
        ⟨⟨rfl, .inl ⟨?_, trivial⟩⟩, trivial⟩
      · rw [wrap_i64 _ (by omega) (by omega)]
      · show some (Blk.tok 1 ((bytesR b).length + 1)) = _
        rw [bytesR_len, Nat.sub_self]
    rintro ⟨j1, hj1⟩
    dsimp only
    conv => whnf
    refine br_intro (fun h => ?_) (fun h => ?_) <;> (rw [h]; conv => whnf)
    · obtain ⟨j, rfl⟩ : ∃ j, j1 = j + 1 := ⟨j1 - 1, by have := of_decide_eq_true h; omega⟩
      have hj : j < L.length := by omega
      refine loop_intro (fun y : { h : Nat // h ≤ j } =>
        ⟨[(0, .sl (some 0) 1 (bytesR (b ++ UInt8.ofNat L.length :: (L.drop (j + 1)).reverse))), (1, u64 n), (7, i64 (j : Nat)), (8, u64 (n / 256 ^ y.1)), (9, i64 (y.1 : Nat))], [(0, .tok 1 (b.length + 1 + (L.length - (j + 1))))], 43, 1, [2000001]⟩) (fun y => j - y.1) ⟨0, Nat.zero_le _⟩ ?_ ?_
      · exact Wk.intro [] rfl (fun p hp => by cases hp) ⟨.same rfl (by exact rfl), .same rfl trivial, .same (congrArg i64 (by omega)) trivial, .same (congrArg (fun z : Nat => u64 z) (by simp)) trivial, .same rfl trivial, trivial⟩ ⟨⟨rfl, .inl ⟨rfl, trivial⟩⟩, trivial⟩
      rintro ⟨q, hq⟩
      dsimp only at hq ⊢
      conv => whnf
      have hdl : n / 256 ^ q ≤ n := Nat.div_le_self _ _
      obtain ⟨mq, hmq⟩ : ∃ mq, n / 256 ^ q = mq := ⟨_, rfl⟩
      rw [hmq] at hdl ⊢
      refine br_intro (fun h => ?_) (fun h => ?_) <;> (rw [h]; conv => whnf)
      · have h' := of_decide_eq_true h
        refine ⟨by decide, ?_⟩
        conv => whnf
        refine Nx.intro ⟨q + 1, by omega⟩ (by dsimp only; omega) ?_
        refine Wk.intro [] rfl (fun p hp => by cases hp) ⟨.same rfl (by exact rfl), .same rfl trivial, .same rfl trivial, .same (congrArg (fun z => T.lit (.int .u64 z)) ?_) trivial, .same (congrArg i64 (by rw [wrap_i64 _ (by omega) (by omega)]; rfl)) trivial, trivial⟩ ⟨⟨rfl, .inl ⟨rfl, trivial⟩⟩, trivial⟩
        rw [Int.tdiv_eq_ediv_of_nonneg (by omega), wrap_u64m]
        show (mq : Int) / 256 % _ = ((n / 256 ^ (q + 1) : Nat) : Int)
        rw [Nat.pow_succ, ← Nat.div_div_eq_div_mul, hmq]
        omega
      · obtain rfl : q = j := by have := of_decide_eq_false h; omega
        refine ⟨by decide, ?_⟩
        conv => whnf
        have hbyte : IntKind.u8.wrap ((mq : Int).tmod 256) = ((L[q]).toNat : Int) := by
          have h1 := hget q hj
          rw [List.getElem?_eq_getElem hj, Option.some.injEq, hmq] at h1
          rw [h1, Int.tmod_eq_emod_of_nonneg (by omega), UInt8.toNat_ofNat', show (mq : Int) % 256 = ((mq % 256 : Nat) : Int) by omega, toU8n, UInt8.toNat_ofNat']
          omega
        have hl : (b ++ UInt8.ofNat L.length :: (L.drop (q + 1)).reverse).length = b.length + 1 + (L.length - (q + 1)) := by simp; omega
        have h8 := le_len n
        rw [hL] at h8
        refine ⟨by rw [bytesR_len, hl], by rw [nb, bytesR_len, hl]; show (b.length + 1 + (L.length - (q + 1)) + 1) * 1 ≤ _; omega, by rw [bytesR_len, hl]; show b.length + 1 + (L.length - (q + 1)) + 1 ≤ _; omega, ?_⟩
        conv => whnf
        have hrows : bytesR (b ++ UInt8.ofNat L.length :: (L.drop (q + 1)).reverse) ++ [[T.lit (.int .u8 (IntKind.u8.wrap ((mq : Int).tmod 256)))]] = bytesR (b ++ UInt8.ofNat L.length :: (L.drop q).reverse) := by
          rw [hbyte, List.drop_eq_getElem_cons hj, List.reverse_cons, ← List.cons_append, ← List.append_assoc, ← bytesR_append _ [L[q]]]; rfl
        refine Nx.intro ⟨q, by omega⟩ (by dsimp only; omega) ?_
        refine Wk.intro [] rfl (fun p hp => by cases hp) ⟨.same (congrArg (T.sl (some 0) 1) hrows) (by exact rfl), .same rfl trivial, .same (congrArg i64 ?_) trivial, trivial⟩
          ⟨⟨rfl, .inl ⟨?_, trivial⟩⟩, trivial⟩
        · rw [wrap_i64 _ (by omega) (by omega)]
        · show some (Blk.tok 1 ((bytesR _).length + 1)) = _
          rw [bytesR_len, hl, show b.length + 1 + (L.length - (q + 1)) + 1 = b.length + 1 + (L.length - q) by omega]
    · obtain rfl : j1 = 0 := by have := of_decide_eq_false h; omega
      rw [List.drop_zero]
      refine ⟨[(0, 0)], ⟨rfl, rfl, rfl⟩, .inl rfl, ?_⟩
      have hl : (b ++ UInt8.ofNat L.length :: L.reverse).length = b.length + 1 + (L.length - 0) := by simp; omega
      refine ⟨⟨0, _, rfl, rfl, rfl, ?_, trivial⟩, trivial⟩
      show Blk.tok 1 _ = Blk.tok 1 _
      rw [hl]
end Go.AW.Wir

/- The wire: the reference's bytes of items, and its encoding, walked. -/
set_option linter.unusedVariables false
set_option linter.unusedSimpArgs false
namespace Go.AW.Wir
open Go Go.AW Go.Proofs
set_option maxRecDepth 10000
set_option pp.maxSteps 60

abbrev RLB : List Nat := [2000001, 1000000 + 60, 1000000 + 47]
def RbOk (i : It) : Prop := ∀ (acc out : List UInt8), acc.length + szV (vI i) ≤ 1000000000 → inI i → enV (vI i) = some out →
  FCm Try.prog 47 [.sl (some 0) 1 (bytesR acc), itT i] (tkM acc) 1 (.sl (some 0) 1 (bytesR (acc ++ out))) (tkM (acc ++ out))
theorem rb_mk (k n : Int) (s : List UInt8) (l : List It) (ih : ∀ i ∈ l, RbOk i) : RbOk (.mk k n s l) := by
  intro acc out hsz hin h
  rw [inI] at hin
  rw [itT_mk]
  rw [vI] at hsz h
  have nb : (Try.prog.types[5]).bytes = 1 := rfl
  by_cases c1 : k = 1 ∧ s = [] ∧ l = []
  · rw [if_pos c1] at hsz h
    obtain ⟨rfl, rfl, rfl⟩ := c1
    rw [enV] at h
    cases h
    rw [szV] at hsz
    refine FCm_of_awp (fn := Try.f47) (c := bodyC Try.f47) Try.func47 rfl (of_decide_eq_true rfl) RLB rfl ?_
    conv => whnf
    refine ⟨bytesR_len _, by rw [nb, bytesR_len]; show (acc.length + 1) * 1 ≤ _; omega, by rw [bytesR_len]; show acc.length + 1 ≤ _; omega, ?_⟩
    conv => whnf
    have hl1 : (acc ++ [1]).length = acc.length + 1 := by simp
    have hout : acc ++ [1] ++ cntB (zig n) = acc ++ 1 :: cntB (zig n) := by simp
    have hz : zig n < 18446744073709551616 := by unfold zig; split <;> omega
    have hc := rcnt_law (acc ++ [1]) (by omega) (zig n) hz
    refine br_intro (fun h0 => ?_) (fun h0 => ?_) <;> (rw [h0]; conv => whnf)
    · have h0 := of_decide_eq_true h0
      have hzz : IntKind.u64.wrap (IntKind.u64.wrap n + IntKind.u64.wrap n) = ((zig n : Nat) : Int) := by
        simp only [wrap_u64m]; unfold zig; rw [if_pos h0]; omega
      refine ⟨[0], _, _, _, _, tkM (acc ++ [1] ++ cntB (zig n)), _, hc, ⟨rfl, ⟨rfl, trivial⟩, arg2 (congrArg (T.sl (some 0) 1) (app1 acc 1)) (congrArg (fun z => T.lit (.int .u64 z)) hzz.symm), rfl, tk_in (congrArg (fun z => some (Blk.tok 1 z)) (tok1 acc 1).symm), rfl, rfl, tk_out 0 _ _⟩, ?_⟩
      conv => whnf
      refine ⟨[(0, 0)], ⟨rfl, rfl, rfl⟩, .inl (congrArg (fun z => T.sl (some 0) 1 (bytesR z)) hout), ⟨⟨0, _, rfl, rfl, rfl, ?_, trivial⟩, trivial⟩⟩
      show Blk.tok 1 _ = Blk.tok 1 _
      rw [hout]
    · have h0 := of_decide_eq_false h0
      have hzz : IntKind.u64.wrap (IntKind.u64.wrap (IntKind.u64.wrap (0 - IntKind.u64.wrap n) + IntKind.u64.wrap (0 - IntKind.u64.wrap n)) - 1) = ((zig n : Nat) : Int) := by
        simp only [wrap_u64m]; unfold zig; rw [if_neg (by omega)]; omega
      refine ⟨[0], _, _, _, _, tkM (acc ++ [1] ++ cntB (zig n)), _, hc, ⟨rfl, ⟨rfl, trivial⟩, arg2 (congrArg (T.sl (some 0) 1) (app1 acc 1)) (congrArg (fun z => T.lit (.int .u64 z)) hzz.symm), rfl, tk_in (congrArg (fun z => some (Blk.tok 1 z)) (tok1 acc 1).symm), rfl, rfl, tk_out 0 _ _⟩, ?_⟩
      conv => whnf
      refine ⟨[(0, 0)], ⟨rfl, rfl, rfl⟩, .inl (congrArg (fun z => T.sl (some 0) 1 (bytesR z)) hout), ⟨⟨0, _, rfl, rfl, rfl, ?_, trivial⟩, trivial⟩⟩
      show Blk.tok 1 _ = Blk.tok 1 _
      rw [hout]
  rw [if_neg c1] at hsz h
  by_cases c2 : k = 2 ∧ n = 0 ∧ l = []
  · rw [if_pos c2] at hsz h
    obtain ⟨rfl, rfl, rfl⟩ := c2
    rw [enV] at h
    cases h
    rw [szV] at hsz
    refine FCm_of_awp (fn := Try.f47) (c := bodyC Try.f47) Try.func47 rfl (of_decide_eq_true rfl) RLB rfl ?_
    conv => whnf
    refine ⟨bytesR_len _, by rw [nb, bytesR_len]; show (acc.length + 1) * 1 ≤ _; omega, by rw [bytesR_len]; show acc.length + 1 ≤ _; omega, ?_⟩
    conv => whnf
    have hl1 : (acc ++ [2]).length = acc.length + 1 := by simp
    have hc9 := cntB_len s.length
    refine ⟨[0], _, _, _, _, tkM (acc ++ [2] ++ cntB s.length), _, rcnt_law (acc ++ [2]) (by omega) s.length (by omega), ⟨rfl, ⟨rfl, trivial⟩, arg2 (congrArg (T.sl (some 0) 1) (app1 acc 2)) ?_, rfl, tk_in (congrArg (fun z => some (Blk.tok 1 z)) (tok1 acc 2).symm), rfl, rfl, tk_out 0 _ _⟩, ?_⟩
    · show T.lit (.int .u64 (s.length : Int)) = T.lit (.int .u64 (IntKind.u64.wrap (((⟨s.toArray⟩ : ByteArray).size : Nat) : Int)))
      rw [sizeD, wrap_mod .u64 rfl, Nat.mod_eq_of_lt (by show _ < 18446744073709551616; omega)]
    conv => whnf
    have hl : (acc ++ [2] ++ cntB s.length).length ≤ acc.length + 10 := by rw [List.length_append]; omega
    have hd : ({ data := s.toArray } : ByteArray).data.toList = s := rfl
    rw [hd]
    refine ⟨bytesR_len _, by rw [nb, bytesR_len, bytesR_len]; show (_ + s.length) * 1 ≤ _; omega, by rw [bytesR_len, bytesR_len]; show _ + s.length ≤ _; omega, ?_⟩
    conv => whnf
    have hout : acc ++ [2] ++ cntB s.length ++ s = acc ++ (2 :: cntB s.length ++ s) := by simp
    refine ⟨[(0, 0)], ⟨rfl, rfl, rfl⟩, .inl ?_, ⟨⟨0, _, rfl, rfl, rfl, ?_, trivial⟩, trivial⟩⟩
    · show T.sl (some 0) 1 (bytesR _ ++ bytesR s) = T.sl (some 0) 1 _
      rw [bytesR_append, hout]
    · show Blk.tok 1 _ = Blk.tok 1 _
      rw [bytesR_len, bytesR_len, ← List.length_append, hout]
  rw [if_neg c2] at hsz h
  by_cases c3 : k ≠ 3 ∨ n ≠ 0 ∨ s ≠ []
  · rw [if_pos c3, enV] at h; cases h
  rw [if_neg c3] at hsz h
  simp only [not_or, Classical.not_not] at c3
  obtain ⟨rfl, rfl, rfl⟩ := c3
  rw [szV] at hsz
  refine FCm_of_awp (fn := Try.f47) (c := bodyC Try.f47) Try.func47 rfl (of_decide_eq_true rfl) RLB rfl ?_
  conv => whnf
  refine ⟨bytesR_len _, by rw [nb, bytesR_len]; show (acc.length + 1) * 1 ≤ _; omega, by rw [bytesR_len]; show acc.length + 1 ≤ _; omega, ?_⟩
  conv => whnf
  have hl1 : (acc ++ [3]).length = acc.length + 1 := by simp
  have hc9 := cntB_len l.length
  have hll := szL_len (vL l)
  rw [vL_map, List.length_map, ← vL_map] at hll
  refine ⟨[0], _, _, _, _, tkM (acc ++ [3] ++ cntB l.length), _, rcnt_law (acc ++ [3]) (by omega) l.length ?_, ⟨rfl, ⟨rfl, trivial⟩, arg2 (congrArg (T.sl (some 0) 1) (app1 acc 3)) ?_, rfl, tk_in (congrArg (fun z => some (Blk.tok 1 z)) (tok1 acc 3).symm), rfl, rfl, tk_out 0 _ _⟩, ?_⟩
  · omega
  · show T.lit (.int .u64 (l.length : Int)) = T.lit (.int .u64 (IntKind.u64.wrap (((itR l).length : Nat) : Int)))
    rw [itR_len, wrap_mod .u64 rfl, Nat.mod_eq_of_lt (by show _ < 18446744073709551616; omega)]
  conv => whnf
  rw [enV] at h
  have hvl : (vL l).length = l.length := by rw [vL_map, List.length_map]
  have hout : acc ++ [3] ++ cntB l.length = acc ++ 3 :: cntB l.length := by simp
  have hbl : (acc ++ [3] ++ cntB l.length).length ≤ acc.length + 10 := by rw [List.length_append]; omega
  obtain ⟨base, hbase⟩ : ∃ base, acc ++ [3] ++ cntB l.length = base := ⟨_, rfl⟩
  rw [hbase] at hout hbl ⊢
  refine loop_intro (fun y : { p : Nat × List UInt8 // p.1 ≤ l.length ∧ base.length + p.2.length + szL (vL (l.drop p.1)) ≤ 1000000000 ∧ enL (vL l) = (enL (vL (l.drop p.1))).map (p.2 ++ ·) } =>
    ⟨[(0, .sl (some 0) 1 (bytesR (base ++ y.1.2))), (3, .ptr 1 0 0), (7, i64 (y.1.1 : Nat))], [(0, .tok 1 (base ++ y.1.2).length), (1, .own 4 [[i64 3, i64 0, str [], .sl none 4 (itR l)]])], 70, 2, RLB⟩) (fun y => l.length - y.1.1) ⟨(0, []), Nat.zero_le _, by simp only [List.length_nil, List.drop_zero]; omega, by simp⟩ ?_ ?_
  · dsimp only
    rw [List.append_nil]
    exact Wk.intro [] rfl (fun p hp => by cases hp) ⟨.same rfl (by exact rfl), .same rfl (by exact rfl), .same rfl trivial, trivial⟩ ⟨⟨rfl, .inl ⟨rfl, trivial⟩⟩, ⟨rfl, .inl ⟨rfl, it_row _ _ _ _ _⟩⟩, trivial⟩
  rintro ⟨⟨j, pre⟩, g1, g2, g3⟩
  dsimp only at g1 g2 g3 ⊢
  conv => whnf
  refine br_intro (fun h1 => ?_) (fun h1 => ?_) <;> (rw [h1]; conv => whnf) <;> rw [itR_len] at h1
  · have hj : j < l.length := by have := of_decide_eq_true h1; omega
    refine ⟨by omega, nthK_intro (itR_get (List.getElem?_eq_getElem hj)) ?_⟩
    conv => whnf
    have hdr : l.drop j = l[j] :: l.drop (j + 1) := List.drop_eq_getElem_cons hj
    rw [hdr, vL] at g2 g3
    rw [szL] at g2
    have hmem : l[j] ∈ l := List.getElem_mem hj
    cases hv : enV (vI l[j]) with
    | none => rw [enL_stop g3 hv] at h; cases h
    | some b =>
      have hbs := enV_len hv
      have hc := ih l[j] hmem (base ++ pre) b (by rw [List.length_append]; omega) (inIs_mem hin.2 hmem) hv
      refine ⟨[0], _, _, _, _, tkM (base ++ pre ++ b), _, hc, ⟨rfl, ⟨rfl, trivial⟩, rfl, rfl, tk_in rfl, rfl, rfl, tk_out 0 _ _⟩, ?_⟩
      conv => whnf
      refine Nx.intro ⟨(j + 1, pre ++ b), by dsimp only; omega, by dsimp only; rw [List.length_append]; omega, enL_step g3 hv⟩ (by dsimp only; omega) ?_
      dsimp only
      rw [← List.append_assoc]
      refine Wk.intro [] rfl (fun p hp => by cases hp) ⟨.same rfl (by exact rfl), .same rfl (by exact rfl), .same (congrArg i64 ?_) trivial, trivial⟩ ⟨⟨rfl, .inl ⟨rfl, trivial⟩⟩, ⟨rfl, .inl ⟨rfl, it_row _ _ _ _ _⟩⟩, trivial⟩
      rw [wrap_i64 _ (by omega) (by omega)]; rfl
  · obtain rfl : j = l.length := by have := of_decide_eq_false h1; omega
    rw [List.drop_length, vL, enL] at g3
    rw [g3] at h
    cases h
    have ho : base ++ pre = acc ++ (3 :: cntB (vL l).length ++ (pre ++ [])) := by rw [hvl, hout]; simp
    rw [← ho]
    exact ⟨[(0, 0)], ⟨rfl, rfl, rfl⟩, .inl rfl, ⟨⟨0, _, rfl, rfl, rfl, rfl, trivial⟩, trivial⟩⟩
theorem rb_law : ∀ i : It, RbOk i
  | .mk k n s l =>
    have ih : ∀ i ∈ l, RbOk i := fun i hi => rb_law i
    rb_mk k n s l ih
termination_by i => SizeOf.sizeOf i
decreasing_by
  have := List.sizeOf_lt_of_mem hi
  simp only [It.mk.sizeOf_spec]
  omega
theorem rb_law0 (i : It) (out : List UInt8) (hs : szV (vI i) ≤ 1000000000) (hin : inI i) (h : enV (vI i) = some out) :
    FCm Try.prog 47 [.lit (.slice none 0 0), itT i] [] 0 (.sl (some 0) 1 (bytesR out)) (tkM out) :=
  FCe.nil (rb_law i [] out (by rw [List.length_nil]; omega) hin h)

theorem rencode_law (i : It) (hi : inI i) : FCv Try.prog 24 [itT i] (.tup [.sl none 1 (bytesR (encode i).1), i64 (encode i).2]) := by
  have n1 := items_law i 4096 1 (by decide) (by decide) (by decide) (by decide)
  have t1 := itN_true i 4096 1 (by decide) (by decide)
  have t2 : (4096 < (itN i 4096 1).1 ∨ 12 < (itN i 4096 1).2) → 4096 < nI i ∨ 12 < dI i := by
    intro h
    by_cases g : nI i ≤ 4096 ∧ dI i ≤ 12
    · rw [itN_is i 4096 1 (by omega) (by omega)] at h
      dsimp only at h
      omega
    · omega
  have x1 := rtexts_law i hi
  have f1 := rformed_law i hi
  have hr := encode_r i
  have hv : ∀ o, okc i 1 4096 → enV (vI i) = some o → encode i = (o, 0) := fun o h1 h2 => enc_of h1 h2
  have hb := rb_law0 i
  have hz : bigI i = false → szV (vI i) ≤ 4106 * nI i := szV_vI
  have hform : formB i = (enV (vI i)).isSome := rfl
  have hok : okc i 1 4096 ↔ (nI i : Int) ≤ 4096 ∧ 1 + dI i ≤ 13 ∧ bigI i = false := by unfold okc; constructor <;> rintro ⟨a, b, c⟩ <;> exact ⟨a, by omega, c⟩
  obtain ⟨⟨p1, p2⟩, hp⟩ : ∃ p, itN i 4096 1 = p := ⟨_, rfl⟩
  rw [hp] at n1 t1 t2
  obtain ⟨R, hR⟩ : ∃ R, encode i = R := ⟨_, rfl⟩
  rw [hR] at hr hv ⊢
  rw [itT_row] at n1 x1 f1 hb ⊢
  dsimp only at n1 t1 t2
  refine FCv_of_awp (fn := Try.f24) (c := bodyC Try.f24) Try.func24 rfl (of_decide_eq_true rfl) [1000000 + 47] ?_
  conv => whnf
  refine ⟨_, n1, ?_⟩
  conv => whnf
  have no : (4096 < nI i ∨ 12 < dI i ∨ bigI i = true) → R = ([], 3) := fun h => by rw [hr, if_pos h]
  refine br_intro (fun h1 => ?_) (fun h1 => ?_) <;> (rw [h1]; conv => whnf)
  · rw [no ((t2 (.inl (by have := of_decide_eq_true h1; omega))).elim .inl (fun h => .inr (.inl h)))]
    exact ⟨.inr (.inl ⟨rfl, 1, rfl⟩), .inl rfl, trivial⟩
  refine br_intro (fun h2 => ?_) (fun h2 => ?_) <;> (rw [h2]; conv => whnf)
  · rw [no ((t2 (.inr (by have := of_decide_eq_true h2; omega))).elim .inl (fun h => .inr (.inl h)))]
    exact ⟨.inr (.inl ⟨rfl, 1, rfl⟩), .inl rfl, trivial⟩
  refine ⟨_, x1, ?_⟩
  conv => whnf
  cases hbig : bigI i with
  | true =>
    conv => whnf
    rw [no (.inr (.inr hbig))]
    exact ⟨.inr (.inl ⟨rfl, 1, rfl⟩), .inl rfl, trivial⟩
  | false =>
    conv => whnf
    have h1 := of_decide_eq_false h1
    have h2 := of_decide_eq_false h2
    obtain ⟨q1, q2⟩ := t1 (by omega) (by omega)
    rw [if_neg (by rw [hbig]; simp; omega)] at hr
    refine ⟨_, f1, ?_⟩
    cases he : enV (vI i) with
    | none =>
      have hf : formB i = false := by rw [hform, he]; rfl
      rw [hf] at hr ⊢
      conv => whnf
      rw [hr]
      exact ⟨.inr (.inl ⟨rfl, 1, rfl⟩), .inl rfl, trivial⟩
    | some o =>
      have hf : formB i = true := by rw [hform, he]; rfl
      rw [hf]
      conv => whnf
      rw [hv o (hok.2 ⟨by omega, by omega, hbig⟩) he]
      have h3 := hz hbig
      refine ⟨[], _, _, _, _, [(1, .tok 1 o.length)], _, hb o (by omega) hi he, ⟨rfl, trivial, rfl, rfl, trivial, rfl, rfl, ⟨⟨rfl, rfl, rfl, trivial⟩, trivial⟩⟩, ?_⟩
      conv => whnf
      refine ⟨?_, .inl rfl, trivial⟩
      conv => whnf
      exact .inl rfl
end Go.AW.Wir
