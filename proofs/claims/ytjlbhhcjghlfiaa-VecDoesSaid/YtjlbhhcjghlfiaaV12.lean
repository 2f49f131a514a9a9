/- Vectors: the document's numbers of many digits. -/
import Derived.Test.YtjlbhhcjghlfiaaV7
set_option linter.unusedVariables false
set_option linter.unusedSimpArgs false
namespace Go.AW.Vec
open Go Go.AW Go.Proofs
set_option maxRecDepth 10000
set_option pp.maxSteps 600
/-- Digits, the lowest first, and what they tell. -/
def valD : List Nat → Nat
  | [] => 0
  | d :: r => d + 10 * valD r
def goodD (l : List Nat) : Prop := (∀ d ∈ l, d < 10) ∧ ∀ d, l.getLast? = some d → d ≠ 0
def digR (l : List Nat) : List (List T) := l.map fun d : Nat => [i64 (d : Int)]
def digT (l : List Nat) : T := .sl none 1 (digR l)
theorem digR_get {l : List Nat} {i d : Nat} (h : l[i]? = some d) : (digR l)[i]? = some [i64 (d : Int)] := by simp only [digR, List.getElem?_map, h, Option.map_some]
theorem digR_len (l : List Nat) : (digR l).length = l.length := List.length_map _

def dig (l : List Nat) (i : Nat) : Nat := l.getD i 0
theorem digit_law (l : List Nat) (i : Nat) (hi : i ≤ 1000000) (hl : l.length ≤ 1000000) : FCv Try.prog 35 [digT l, i64 (i : Int)] (i64 (dig l i : Int)) := by
  refine FCv_of_awp (fn := Try.f35) (c := bodyC Try.f35) Try.func35 rfl (of_decide_eq_true rfl) [] ?_
  conv => whnf
  refine br_intro (fun h => ?_) (fun h => ?_)
  · rw [h]
    have h1 : i < l.length := by have := of_decide_eq_true h; rw [digR_len] at this; omega
    have hv : l[i]? = some l[i] := List.getElem?_eq_getElem h1
    conv => whnf
    refine ⟨by omega, nthK_intro (digR_get (by rw [Int.toNat_natCast]; exact hv)) ?_⟩
    conv => whnf
    refine .inl (i64_cong ?_)
    unfold dig
    rw [List.getD_eq_getElem?_getD, hv]; rfl
  · rw [h]
    have h1 : ¬ i < l.length := by have := of_decide_eq_false h; rw [digR_len] at this; omega
    conv => whnf
    refine .inl (i64_cong ?_)
    unfold dig
    rw [List.getD_eq_getElem?_getD, List.getElem?_eq_none (by omega)]; rfl

/-- Which of two rows of digits is less. -/
def lessD (a b : List Nat) : Nat → Bool
  | 0 => false
  | i + 1 => if dig a i = dig b i then lessD a b i else decide (dig a i < dig b i)
theorem less_law (a b : List Nat) (ha : a.length ≤ 1000) (hb : b.length ≤ 1000) : FCv Try.prog 29 [digT a, digT b] (tb (lessD a b (max a.length b.length))) := by
  refine FCv_of_awp (fn := Try.f29) (c := bodyC Try.f29) Try.func29 rfl (of_decide_eq_true rfl) [] ?_
  conv => whnf
  refine br_intro (fun h => ?_) (fun h => ?_)
  · rw [h]
    have h1 := of_decide_eq_true h
    rw [digR_len, digR_len] at h1
    conv => whnf
    refine loop_intro (fun k : {k : Fin (max a.length b.length + 1) // lessD a b (max a.length b.length) = lessD a b k.val} => ⟨[(0, digT a), (1, digT b), (6, i64 ((k.1.val : Int) - 1))], [], 35, 0, []⟩) (fun k => k.1.val) ⟨⟨max a.length b.length, by omega⟩, rfl⟩ ?_ ?_
    · refine Wk.intro [] rfl (fun p hp => by cases hp) ⟨.same rfl trivial, .same rfl trivial, .same ?_ trivial, trivial⟩ trivial
      exact i64_cong (i64w (by simp only [digR_len]; omega) (by simp only; omega) (by simp only; omega))
    rintro ⟨k, hk⟩
    dsimp only
    conv => whnf
    refine br_intro (fun h => ?_) (fun h => ?_)
    · rw [h]
      have hk1 : 1 ≤ k.val := by have := of_decide_eq_true h; omega
      have e : ((k.val : Int) - 1) = ((k.val - 1 : Nat) : Int) := by omega
      rw [e]
      conv => whnf
      refine ⟨_, digit_law a (k.val - 1) (by omega) (by omega), ?_⟩
      conv => whnf
      refine ⟨_, digit_law b (k.val - 1) (by omega) (by omega), ?_⟩
      conv => whnf
      have ek : lessD a b k.val = if dig a (k.val - 1) = dig b (k.val - 1) then lessD a b (k.val - 1) else decide (dig a (k.val - 1) < dig b (k.val - 1)) := by
        obtain ⟨j, hj⟩ : ∃ j, k.val = j + 1 := ⟨k.val - 1, by omega⟩
        rw [hj]; rfl
      by_cases hd : dig a (k.val - 1) = dig b (k.val - 1)
      · rw [show ((dig a (k.val - 1) : Int) != (dig b (k.val - 1) : Int)) = false by rw [hd]; simp]
        conv => whnf
        refine Nx.intro ⟨⟨k.val - 1, by omega⟩, by rw [hk, ek, if_pos hd]⟩ (by simp only; omega) ?_
        refine Wk.intro [] rfl (fun p hp => by cases hp) ⟨.same rfl trivial, .same rfl trivial, .same ?_ trivial, trivial⟩ trivial
        exact i64_cong (i64w (by simp only) (by simp only; omega) (by simp only; omega))
      · rw [show ((dig a (k.val - 1) : Int) != (dig b (k.val - 1) : Int)) = true by rw [bne_iff_ne]; exact fun e => hd (Int.ofNat.inj e)]
        conv => whnf
        refine ⟨_, digit_law a (k.val - 1) (by omega) (by omega), ?_⟩
        conv => whnf
        refine ⟨_, digit_law b (k.val - 1) (by omega) (by omega), ?_⟩
        conv => whnf
        refine .inl (congrArg tb ?_)
        rw [hk, ek, if_neg hd]
        exact decide_eq_decide.2 (by omega)
    · rw [h]
      have hk0 : k.val = 0 := by have := of_decide_eq_false h; omega
      conv => whnf
      refine .inl (congrArg tb ?_)
      rw [hk, hk0]; rfl
  · rw [h]
    have h1 := of_decide_eq_false h
    rw [digR_len, digR_len] at h1
    conv => whnf
    refine loop_intro (fun k : {k : Fin (max a.length b.length + 1) // lessD a b (max a.length b.length) = lessD a b k.val} => ⟨[(0, digT a), (1, digT b), (6, i64 ((k.1.val : Int) - 1))], [], 35, 0, []⟩) (fun k => k.1.val) ⟨⟨max a.length b.length, by omega⟩, rfl⟩ ?_ ?_
    · refine Wk.intro [] rfl (fun p hp => by cases hp) ⟨.same rfl trivial, .same rfl trivial, .same ?_ trivial, trivial⟩ trivial
      exact i64_cong (i64w (by simp only [digR_len]; omega) (by simp only; omega) (by simp only; omega))
    rintro ⟨k, hk⟩
    dsimp only
    conv => whnf
    refine br_intro (fun h => ?_) (fun h => ?_)
    · rw [h]
      have hk1 : 1 ≤ k.val := by have := of_decide_eq_true h; omega
      have e : ((k.val : Int) - 1) = ((k.val - 1 : Nat) : Int) := by omega
      rw [e]
      conv => whnf
      refine ⟨_, digit_law a (k.val - 1) (by omega) (by omega), ?_⟩
      conv => whnf
      refine ⟨_, digit_law b (k.val - 1) (by omega) (by omega), ?_⟩
      conv => whnf
      have ek : lessD a b k.val = if dig a (k.val - 1) = dig b (k.val - 1) then lessD a b (k.val - 1) else decide (dig a (k.val - 1) < dig b (k.val - 1)) := by
        obtain ⟨j, hj⟩ : ∃ j, k.val = j + 1 := ⟨k.val - 1, by omega⟩
        rw [hj]; rfl
      by_cases hd : dig a (k.val - 1) = dig b (k.val - 1)
      · rw [show ((dig a (k.val - 1) : Int) != (dig b (k.val - 1) : Int)) = false by rw [hd]; simp]
        conv => whnf
        refine Nx.intro ⟨⟨k.val - 1, by omega⟩, by rw [hk, ek, if_pos hd]⟩ (by simp only; omega) ?_
        refine Wk.intro [] rfl (fun p hp => by cases hp) ⟨.same rfl trivial, .same rfl trivial, .same ?_ trivial, trivial⟩ trivial
        exact i64_cong (i64w (by simp only) (by simp only; omega) (by simp only; omega))
      · rw [show ((dig a (k.val - 1) : Int) != (dig b (k.val - 1) : Int)) = true by rw [bne_iff_ne]; exact fun e => hd (Int.ofNat.inj e)]
        conv => whnf
        refine ⟨_, digit_law a (k.val - 1) (by omega) (by omega), ?_⟩
        conv => whnf
        refine ⟨_, digit_law b (k.val - 1) (by omega) (by omega), ?_⟩
        conv => whnf
        refine .inl (congrArg tb ?_)
        rw [hk, ek, if_neg hd]
        exact decide_eq_decide.2 (by omega)
    · rw [h]
      have hk0 : k.val = 0 := by have := of_decide_eq_false h; omega
      conv => whnf
      refine .inl (congrArg tb ?_)
      rw [hk, hk0]; rfl
end Go.AW.Vec
