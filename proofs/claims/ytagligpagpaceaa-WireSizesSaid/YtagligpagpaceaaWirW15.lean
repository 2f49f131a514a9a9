import Derived.Test.YtagligpagpaceaaWirW13
import Derived.Test.YtagligpagpaceaaP8
/- The wire: a list's size. -/
set_option linter.unusedVariables false
set_option linter.unusedSimpArgs false
namespace Go.AW.Wir
open Go Go.AW Go.Proofs
set_option maxRecDepth 10000
set_option pp.maxSteps 60

theorem inI_nest {l : List It} (h : inIs l) (hl : l.length ≤ 40) : ∀ m, inI (nest l m)
  | 0 => row_in h (by omega)
  | m + 1 => row_in (by rw [inIs, inIs]; exact ⟨inI_nest h hl m, trivial⟩) (by simp)
theorem sizes_law (l : List It) (hi : inIs l) (v : UInt8) : FCv Try.prog 5 [.sl none 4 (itR l), .lit (.int .u8 v.toNat)] (tb true) := by
  refine FCv_of_awp (fn := Try.f5) (c := bodyC Try.f5) Try.func5 rfl (of_decide_eq_true rfl) [] ?_
  conv => whnf
  refine ⟨_, awake_law, ?_⟩
  conv => whnf
  rw [itR_len]
  refine br_intro (fun h1 => ?_) (fun h1 => ?_) <;> (rw [h1]; conv => whnf)
  · exact .inl rfl
  have hl := of_decide_eq_false h1
  refine br_intro (fun h2 => ?_) (fun h2 => ?_) <;> (rw [h2]; conv => whnf)
  all_goals
    have hb0 : ∃ b : Nat, b = base l.length := ⟨_, rfl⟩
    obtain ⟨b0, hb0⟩ := hb0
    have hbb := hb0
    rw [base] at hbb
    rw [itR_len] at h2
    refine loop_intro (fun y : { p : Nat × Nat // p.1 ≤ l.length ∧ (∀ i ∈ l.take p.1, Fits i) ∧ p.2 = b0 + szs (l.take p.1) ∧ p.2 ≤ 3 + p.1 * 16818176 } =>
      ⟨[(0, .sl none 4 (itR l)), (1, .lit (.int .u8 v.toNat)), (5, i64 (y.1.2 : Nat)), (22, i64 (l.length : Nat)), (23, i64 (y.1.1 : Nat))], [], 81, 0, []⟩)
      (fun y => l.length - y.1.1) ⟨(0, b0), Nat.zero_le _, by simp, by simp [szs], by dsimp only; rw [hb0, base]; split <;> omega⟩ ?_ ?_
    · have h5 : (b0 : Int) = (if (l.length : Int) == 0 then 2 else 3) := by
        rw [hbb, h2]
        first | (have := eq_of_beq h2; rw [if_pos (by omega), if_pos rfl]; rfl) | (have := ne_of_beq_false h2; rw [if_neg (by omega), if_neg (by simp)]; rfl)
      rw [h2] at h5
      exact Wk.intro [] rfl (fun p hp => by cases hp) ⟨.same rfl trivial, .same rfl trivial, .same (congrArg i64 h5.symm) trivial, .same (congrArg (fun z : Nat => i64 (z : Int)) (itR_len l)) trivial, .same rfl trivial, trivial⟩ trivial
    rintro ⟨⟨j, n⟩, g1, g2, g3, g4⟩
    dsimp only at g1 g2 g3 g4 ⊢
    conv => whnf
    refine br_intro (fun h3 => ?_) (fun h3 => ?_) <;> (rw [h3]; conv => whnf)
    · have hj : j < l.length := by have := of_decide_eq_true h3; omega
      have hin : inI l[j] := inIs_mem hi (List.getElem_mem hj)
      refine ⟨by omega, nthK_intro (itR_get (List.getElem?_eq_getElem hj)) ?_⟩
      conv => whnf
      have n1 := items_law l[j] 90 1 (by decide) (by decide) (by decide) (by decide)
      have t1 := itN_true l[j] 90 1 (by decide) (by decide)
      obtain ⟨⟨p1, p2⟩, hp⟩ : ∃ p, itN l[j] 90 1 = p := ⟨_, rfl⟩
      rw [hp] at n1 t1
      have x1 := texts_law l[j] hin
      obtain ⟨⟨w1, w2⟩, hw⟩ : ∃ p, wiN l[j] 100 10000 = p := ⟨_, rfl⟩
      rw [hw] at x1
      have e1 := encode_law l[j] hin
      have la := enc_len l[j]
      have hfit : l.take (j + 1) = l.take j ++ [l[j]] := by rw [List.take_add_one, List.getElem?_eq_getElem hj]; rfl
      obtain ⟨i, hI⟩ : ∃ i, l[j] = i := ⟨_, rfl⟩
      rw [hI] at n1 t1 x1 e1 la hfit
      have hfi : ∀ a, (encode i).1 = a → (encode i).2 = 0 → Fits i → (∀ i ∈ l.take (j + 1), Fits i) ∧ n + a.length = b0 + szs (l.take (j + 1)) := by
        intro a ha h0 hf
        rw [hfit]
        refine ⟨fun x hx => ?_, ?_⟩
        · rcases List.mem_append.1 hx with hx | hx
          · exact g2 x hx
          · rw [List.mem_singleton.1 hx]; exact hf
        · rw [szs_append, szs, szs, g3, ha]; omega
      obtain ⟨⟨a, ea⟩, hA⟩ : ∃ p, encode i = p := ⟨_, rfl⟩
      have hF : Fits i ↔ (nI i : Int) ≤ 90 ∧ (dI i : Int) ≤ 6 ∧ (encode i).2 = 0 := Iff.rfl
      rw [hA] at e1 hfi la hF
      rw [itT_row] at n1 x1 e1
      dsimp only at n1 t1 x1 e1 la hfi hF
      rw [show itC l[j] = itC i from by rw [hI], itC_eq]
      refine ⟨_, n1, ?_⟩
      conv => whnf
      refine br_intro (fun k1 => ?_) (fun k1 => ?_) <;> (rw [k1]; conv => whnf)
      · exact .inl rfl
      refine br_intro (fun k2 => ?_) (fun k2 => ?_) <;> (rw [k2]; conv => whnf)
      · exact .inl rfl
      refine ⟨by omega, nthK_intro (itR_get (List.getElem?_eq_getElem hj)) ?_⟩
      conv => whnf
      rw [show itC l[j] = itC i from by rw [hI], itC_eq]
      refine ⟨_, x1, ?_⟩
      conv => whnf
      refine br_intro (fun k3 => ?_) (fun k3 => ?_) <;> (rw [k3]; conv => whnf)
      · exact .inl rfl
      refine ⟨by omega, nthK_intro (itR_get (List.getElem?_eq_getElem hj)) ?_⟩
      conv => whnf
      rw [show itC l[j] = itC i from by rw [hI], itC_eq]
      refine ⟨_, e1, ?_⟩
      conv => whnf
      by_cases z1 : ea = 0
      rotate_left
      · rw [qn z1]
        conv => whnf
        exact .inl rfl
      rw [qq z1]
      conv => whnf
      replace k1 := of_decide_eq_false k1
      replace k2 := of_decide_eq_false k2
      obtain ⟨f1, f2⟩ := t1 (by omega) (by omega)
      obtain ⟨m1, m2⟩ := hfi a rfl z1 (hF.2 ⟨by omega, by omega, z1⟩)
      refine Nx.intro ⟨(j + 1, n + a.length), hj, m1, m2, by dsimp only; omega⟩ (by dsimp only; omega) ?_
      refine Wk.intro [] rfl (fun p hp => by cases hp) ⟨.same rfl trivial, .same rfl trivial, .same (congrArg i64 (by rw [bytesR_len, wrap_i64 _ (by omega) (by omega)]; rfl)) trivial, .same rfl trivial, .same (congrArg i64 (by rw [wrap_i64 _ (by omega) (by omega)]; rfl)) trivial, trivial⟩ trivial
    · obtain rfl : j = l.length := by have := of_decide_eq_false h3; omega
      rw [List.take_length] at g2 g3
      have r := row_law l
      rw [itT_mk] at r
      refine ⟨_, r, ?_⟩
      conv => whnf
      obtain ⟨q, hq⟩ : ∃ q : Nat, q = v.toNat % 5 := ⟨_, rfl⟩
      refine loop_intro (fun y : { m : Nat // m ≤ q } =>
        ⟨[(1, .lit (.int .u8 v.toNat)), (5, i64 ((n + 3 * y.1 : Nat) : Int)), (11, .ptr 0 0 0), (12, i64 (y.1 : Nat))], [(0, .own 4 [itC (nest l y.1)])], 81, 1, []⟩)
        (fun y => q - y.1) ⟨0, Nat.zero_le _⟩ ?_ ?_
      · exact Wk.intro [] rfl (fun p hp => by cases hp) ⟨.same rfl trivial, .same rfl trivial, .same rfl (by exact rfl), .same rfl trivial, trivial⟩ ⟨⟨rfl, .inl ⟨by rw [nest, itC_eq]; rfl, by rw [itC_eq]; exact it_row _ _ _ _ _⟩⟩, trivial⟩
      rintro ⟨m, hm⟩
      dsimp only at hm ⊢
      have r2 := row_law [nest l m]
      rw [itT_mk, show itR [nest l m] = [itC (nest l m)] from rfl] at r2
      obtain ⟨i, hI⟩ : ∃ i, nest l m = i := ⟨_, rfl⟩
      have hin := inI_nest hi (by omega) m
      have e2 := size_law (nest l m) hin
      have hlen := nest_len (by omega) g2 m (by omega)
      have hnx : itC (nest l (m + 1)) = [i64 3, i64 0, str [], .sl none 4 [itC (nest l m)]] := by rw [nest, itC_eq]; rfl
      rw [hI] at r2 e2 hlen hnx ⊢
      rw [itC_eq] at r2 ⊢
      rw [itC_eq i] at hnx
      rw [itT_row] at e2
      conv => whnf
      refine ⟨by decide, ?_⟩
      conv => whnf
      have hw : IntKind.i64.wrap ((v.toNat : Int).tmod 5) = (q : Int) := by
        have hv := v.toNat_lt
        rw [Int.tmod_eq_emod_of_nonneg (by omega)]
        rw [wrap_i64 _ (by omega) (by omega), hq]
        omega
      refine br_intro (fun h4 => ?_) (fun h4 => ?_) <;> (rw [h4]; conv => whnf)
      · have h4' := of_decide_eq_true h4
        have hmq : m < q := by
          have : (m : Int) < IntKind.i64.wrap ((v.toNat : Int).tmod 5) := h4'
          omega
        refine ⟨_, r2, ?_⟩
        conv => whnf
        refine Nx.intro ⟨m + 1, hmq⟩ (by dsimp only; omega) ?_
        refine Wk.intro [] rfl (fun p hp => by cases hp) ⟨.same rfl trivial, .same (congrArg i64 (by rw [wrap_i64 _ (by omega) (by omega)]; show ((n + 3 * m : Nat) : Int) + 3 = ((n + 3 * (m + 1) : Nat) : Int); omega)) trivial, .same rfl (by exact rfl), .same (congrArg i64 (by rw [wrap_i64 _ (by omega) (by omega)]; rfl)) trivial, trivial⟩ ⟨⟨rfl, .inl ⟨?_, by rw [itC_eq]; exact it_row _ _ _ _ _⟩⟩, trivial⟩
        · show _ = some (Blk.own 4 [itC (nest l (m + 1))])
          rw [hnx]
          rfl
      · have h4' := of_decide_eq_false h4
        have hmq : m = q := by
          have : ¬ (m : Int) < IntKind.i64.wrap ((v.toNat : Int).tmod 5) := h4'
          omega
        refine ⟨_, e2, ?_⟩
        conv => whnf
        exact .inl (congrArg tb (bq (by rw [hlen, g3, hb0])))
theorem sizes_row (l : List It) (deep : Int) (hi : inIs l) (hl : l.length ≤ 9223372036854775807) (hd0 : IntKind.u8.min ≤ deep) (hd1 : deep ≤ IntKind.u8.max) :
    FCv Try.prog 5 [.sl none 4 (itR l), .lit (.int .u8 deep)] (tb true) := by
  have b0 : (0 : Int) ≤ deep := hd0
  have b1 : deep ≤ 255 := hd1
  have e : deep = ((UInt8.ofNat deep.toNat).toNat : Int) := by rw [UInt8.toNat_ofNat']; omega
  rw [e]
  exact sizes_law l hi _
end Go.AW.Wir
