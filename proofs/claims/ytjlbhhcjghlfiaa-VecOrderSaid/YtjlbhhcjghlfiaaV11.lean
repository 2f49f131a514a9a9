/- Vectors: the law of the order of sums. -/
import Derived.Test.YtjlbhhcjghlfiaaV9
set_option linter.unusedVariables false
set_option linter.unusedSimpArgs false
namespace Go.AW.Vec
open Go Go.AW Go.Proofs
set_option maxRecDepth 10000
set_option pp.maxSteps 600
theorem tot_cong {sg sg' : List Int} {l l' : List V} (h : ∀ r, r < 3 → tot sg l r = tot sg' l' r) : totV sg l = totV sg' l' ∧ totE sg l = totE sg' l' := by
  unfold totV totE totOk
  rw [h 0 (by decide), h 1 (by decide), h 2 (by decide)]
  exact ⟨rfl, rfl⟩
theorem psum_sum (l : List V) (r : Nat) : ∀ i, i ≤ l.length → psum [1] l r i = ((l.take i).map fun v => cmp v r).sum
  | 0, _ => by simp [psum]
  | i + 1, hi => by
    have hv : l[i]? = some l[i] := List.getElem?_eq_getElem (by omega)
    rw [psum, psum_sum l r i (by omega), List.take_add_one, hv]
    rw [show ([1] : List Int).getD (i % ([1] : List Int).length) 0 = 1 by rw [show i % ([1] : List Int).length = 0 from Nat.mod_one i]; rfl]
    simp only [ Option.toList_some, List.map_append, List.map_cons, List.map_nil, List.sum_append, List.sum_cons, List.sum_nil, List.getD_eq_getElem?_getD, hv, Option.getD_some]
    omega
theorem tot_sum (l : List V) (r : Nat) : tot [1] l r = (l.map fun v => cmp v r).sum := by
  unfold tot
  rw [psum_sum l r l.length (Nat.le_refl _), List.take_length]
theorem tot_rev (l : List V) (r : Nat) : tot [1] l.reverse r = tot [1] l r := by
  rw [tot_sum, tot_sum, List.map_reverse, List.sum_reverse]
theorem tot_parts (l : List V) (n : Nat) (r : Nat) : tot [1] (l.take n) r + tot [1] (l.drop n) r = tot [1] l r := by
  rw [tot_sum, tot_sum, tot_sum, ← List.sum_append, ← List.map_append, List.take_append_drop]
theorem sums_parts {l : List V} {n : Nat} (h1 : totE [1] (l.take n) = 0) (h2 : totE [1] (l.drop n) = 0) :
    totV [1] [totV [1] (l.take n), totV [1] (l.drop n)] = totV [1] l ∧ totE [1] [totV [1] (l.take n), totV [1] (l.drop n)] = totE [1] l := by
  refine tot_cong fun r hr => ?_
  rw [tot2]
  rcases tot_cases [1] (l.take n) with ⟨_, g1⟩ | ⟨g1, _⟩
  · rcases tot_cases [1] (l.drop n) with ⟨_, g2⟩ | ⟨g2, _⟩
    · rw [(g1 r hr).1, (g2 r hr).1, tot_parts]
    · rw [g2] at h2; cases h2
  · rw [g1] at h1; cases h1

theorem vRows_take (l : List V) (n : Nat) : (vRows l).take n = vRows (l.take n) := (List.map_take ..).symm
theorem vRows_drop (l : List V) (n : Nat) : (vRows l).drop n = vRows (l.drop n) := (List.map_drop ..).symm

theorem VecOrder_law (l : List V) (at_ : Int) (hl : ∀ v ∈ l, okV v) (hlb : l.length * Try.prog.bytesOf 23 ≤ reachBytes) (ha1 : -9223372036854775808 ≤ at_) (ha2 : at_ ≤ 9223372036854775807) : FCv Try.prog 5 [.sl none 3 (vRows l), i64 at_] (tb true) := by
  refine FCv_of_awp (fn := Try.f5) (c := bodyC Try.f5) Try.func5 rfl (of_decide_eq_true rfl) [] ?_
  conv => whnf
  refine ⟨_, awake_law, ?_⟩
  conv => whnf
  refine br_intro (fun h => ?_) (fun h => ?_)
  · rw [h]
    conv => whnf
    exact .inl rfl
  rw [h]
  have h1 := of_decide_eq_false h
  rw [vRows_len] at h1
  conv => whnf
  refine br_intro (fun h => ?_) (fun h => ?_)
  · rw [h]
    conv => whnf
    exact .inl rfl
  rw [h]
  have h2 := of_decide_eq_false h
  conv => whnf
  refine br_intro (fun h => ?_) (fun h => ?_)
  · rw [h]
    conv => whnf
    exact .inl rfl
  rw [h]
  have h3 := of_decide_eq_false h
  rw [vRows_len] at h3
  conv => whnf
  have hrl : l.reverse.length = l.length := List.length_reverse
  refine loop_intro (fun k : Fin (l.length + 1) => ⟨[(0, .sl none 3 (vRows l)), (1, i64 at_), (5, .sl (some 0) 3 (vRows (l.reverse.take k.val))), (6, i64 ((l.length : Int) - 1 - k.val))], [(0, .tok 3 (vRows (l.reverse.take k.val)).length)], 99, 1, []⟩) (fun k => l.length - k.val) 0 ?_ ?_
  · refine Wk.intro [] rfl (fun p hp => by cases hp) ⟨.same rfl trivial, .same rfl trivial, .same rfl (by exact rfl), .same ?_ trivial, trivial⟩
      ⟨⟨rfl, .inl ⟨rfl, trivial⟩⟩, trivial⟩
    exact i64_cong (i64w (by rw [vRows_len]; simp) (by simp; omega) (by simp; omega))
  intro k
  conv => whnf
  refine br_intro (fun h => ?_) (fun h => ?_)
  · rw [h]
    have hk : k.val < l.length := by have := of_decide_eq_true h; omega
    have hv : l.reverse[k.val]? = some l.reverse[k.val] := List.getElem?_eq_getElem (by omega)
    have hv2 : l[((l.length : Int) - 1 - k.val).toNat]? = some l.reverse[k.val] := by
      rw [← hv, List.getElem?_reverse hk]
      congr 1; omega
    conv => whnf
    refine ⟨by omega, nthK_intro (vRows_get hv2) ?_⟩
    conv => whnf
    refine ⟨rfl, ?_, ?_, ?_⟩
    · rw [vRows_len, List.length_take]
      show (min k.val l.reverse.length + 1) * 24 ≤ _
      omega
    · rw [vRows_len, List.length_take]
      show min k.val l.reverse.length + 1 ≤ _
      omega
    conv => whnf
    have hnext : vRows (l.reverse.take k.val) ++ [vR l.reverse[k.val]] = vRows (l.reverse.take (k.val + 1)) := by
      rw [List.take_add_one, hv]; simp [vRows]
    refine Nx.intro ⟨k.val + 1, by omega⟩ (by simp only; omega) ?_
    refine Wk.intro [] rfl (fun p hp => by cases hp) ⟨.same rfl trivial, .same rfl trivial, .same ?_ (by exact rfl), .same ?_ trivial, trivial⟩
      ⟨⟨rfl, .inl ⟨?_, trivial⟩⟩, trivial⟩
    · exact congrArg (T.sl (some 0) 3) hnext
    · exact i64_cong (i64w (by simp only; omega) (by simp only; omega) (by simp only; omega))
    · show some (Blk.tok 3 ((vRows (l.reverse.take k.val)).length + 1)) = some (Blk.tok 3 (vRows (l.reverse.take (k.val + 1))).length)
      rw [← hnext, List.length_append]; rfl
  · rw [h]
    have hk : k.val = l.length := by have := of_decide_eq_false h; omega
    have hrev : l.reverse.take k.val = l.reverse := by rw [hk, ← hrl, List.take_length]
    rw [hrev]
    conv => whnf
    have hlr : ∀ v ∈ l.reverse, okV v := fun v hv => hl v (List.mem_reverse.1 hv)
    have sl := sum_law l hl (by omega)
    have sr := sum_law l.reverse hlr (by omega)
    rw [(tot_cong fun r _ => tot_rev l r).1, (tot_cong fun r _ => tot_rev l r).2] at sr
    refine ⟨_, sl, ?_⟩
    conv => whnf
    refine ⟨_, sr, ?_⟩
    conv => whnf
    refine ⟨vV (totV [1] l), vV (totV [1] l), rfl, rfl, nePure _ _ _ _ ?_⟩
    rw [eqV_self]
    conv => whnf
    rw [show (totE [1] l != totE [1] l) = false by simp]
    obtain ⟨n, rfl⟩ := Int.eq_ofNat_of_zero_le (a := at_) (by omega)
    conv => whnf
    refine ⟨by omega, ?_⟩
    conv => whnf
    refine ⟨⟨by omega, by rw [vRows_len]; omega⟩, ?_⟩
    conv => whnf
    have cut1 : FCv Try.prog 21 [.sl none 3 (List.take ((n : Int).toNat - 0) (List.drop 0 (vRows l)))] (.tup [vT (totV [1] (l.take n)), i64 (totE [1] (l.take n))]) := by
      have := sum_law (l.take n) (fun v hv => hl v (List.mem_of_mem_take hv)) (by rw [List.length_take]; omega)
      rw [← vRows_take] at this
      rw [List.drop_zero]; exact this
    have cut2 : FCv Try.prog 21 [.sl none 3 (List.take ((vRows l).length - (n : Int).toNat) (List.drop (n : Int).toNat (vRows l)))] (.tup [vT (totV [1] (l.drop n)), i64 (totE [1] (l.drop n))]) := by
      have := sum_law (l.drop n) (fun v hv => hl v (List.mem_of_mem_drop hv)) (by rw [List.length_drop]; omega)
      rw [← vRows_drop] at this
      rw [List.take_of_length_le (by rw [List.length_drop]; exact Nat.le_refl _)]; exact this
    refine ⟨_, cut1, ?_⟩
    conv => whnf
    refine ⟨by omega, ?_⟩
    conv => whnf
    refine ⟨⟨by rw [vRows_len]; omega, by omega⟩, ?_⟩
    conv => whnf
    refine ⟨_, cut2, ?_⟩
    conv => whnf
    rcases tot_cases [1] (l.take n) with ⟨hE1, _⟩ | ⟨hE1, _⟩
    · rw [show (totE [1] (l.take n) != 0) = false by rw [hE1]; rfl]
      conv => whnf
      rcases tot_cases [1] (l.drop n) with ⟨hE2, _⟩ | ⟨hE2, _⟩
      · rw [show (totE [1] (l.drop n) != 0) = false by rw [hE2]; rfl]
        conv => whnf
        have sa := add_law (totV [1] (l.take n)) (totV [1] (l.drop n)) (totV_okV _ _) (totV_okV _ _)
        rw [(sums_parts hE1 hE2).1, (sums_parts hE1 hE2).2] at sa
        refine ⟨_, sa, ?_⟩
        conv => whnf
        refine ⟨vV (totV [1] l), vV (totV [1] l), rfl, rfl, eqPure _ _ _ _ ?_⟩
        rw [eqV_self]
        conv => whnf
        refine .inl (congrArg tb ?_)
        exact beq_self_eq_true _
      · rw [show (totE [1] (l.drop n) != 0) = true by rw [hE2]; rfl]
        conv => whnf
        exact .inl rfl
    · rw [show (totE [1] (l.take n) != 0) = true by rw [hE1]; rfl]
      conv => whnf
      exact .inl rfl
end Go.AW.Vec
