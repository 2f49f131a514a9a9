/- Frames: the law of records read back. -/
import Derived.Test.YtacmiopopcdofaaF7
set_option linter.unusedVariables false
set_option linter.unusedSimpArgs false
namespace Go.AW.Frm
open Go Go.AW Go.Proofs
open Go.AW.Crc
set_option maxRecDepth 10000
set_option pp.maxSteps 600

theorem size_lens (l : List (List UInt8)) : size l = 8 * l.length + lens l := by
  induction l with
  | nil => rfl
  | cons p r ih => simp only [size, lens, List.length_cons, ih]; omega

theorem FrameBack_law (l : List (List UInt8)) (t : List UInt8) (hl : l.length * 24 ≤ reachBytes) (hr : ∀ p ∈ l, p.length ≤ reachBytes) (ht : t.length ≤ reachBytes) : FCv Try.prog 5 [.sl none 1 (recsR l), .sl none 1 (bytesR t)] (tb true) := by
  have hrb : reachBytes = 140737488351232 := rfl
  refine FCv_of_awp (fn := Try.f5) (c := bodyC Try.f5) Try.func5 rfl (of_decide_eq_true rfl) [] ?_
  conv => whnf
  refine ⟨_, awake_law, ?_⟩
  conv => whnf
  refine br_intro (fun h => ?_) (fun h => ?_)
  · rw [h]
    conv => whnf
    exact .inl rfl
  rw [h]
  have h1 := of_decide_eq_false h
  rw [recsR_len] at h1
  conv => whnf
  refine br_intro (fun h => ?_) (fun h => ?_)
  · rw [h]
    conv => whnf
    exact .inl rfl
  rw [h]
  have h2 := of_decide_eq_false h
  rw [bytesR_len] at h2
  conv => whnf
  refine ⟨_, total_law l hl hr, ?_⟩
  conv => whnf
  refine br_intro (fun h => ?_) (fun h => ?_)
  · rw [h]
    conv => whnf
    exact .inl rfl
  rw [h]
  have h3 := of_decide_eq_false h
  have h4 := tally_small l 0 (by omega)
  have h5 := size_lens l
  have hsz : size l ≤ 66016 := by omega
  conv => whnf
  have w := whole_law l (by omega) hr
  unfold wholeT at w
  by_cases hall : ∀ p ∈ l, p.length ≤ 4096
  · rw [if_pos hall] at w
    refine ⟨_, w, ?_⟩
    conv => whnf
    have n1 : (Try.prog.types[5]).bytes = 1 := rfl
    have hcl := cat_len l
    have hsc := scan_cat l t hall
    rw [scan_short (t := t) (by omega), List.append_nil] at hsc
    refine ⟨rfl, by rw [n1, bytesR_len]; show (0 + (cat l).length) * 1 ≤ _; omega, by rw [bytesR_len]; show 0 + (cat l).length ≤ _; omega, ?_⟩
    conv => whnf
    refine ⟨?_, ?_, ?_, ?_⟩
    · simp only [List.length_append]
    · rw [n1, List.length_append, bytesR_len, bytesR_len]; show (0 + (cat l).length + t.length) * 1 ≤ _; omega
    · rw [List.length_append, bytesR_len, bytesR_len]; show 0 + (cat l).length + t.length ≤ _; omega
    conv => whnf
    have s1 := scan_law (cat l ++ t) (by rw [List.length_append]; omega)
    rw [hsc, ← bytesR_append] at s1
    refine ⟨_, s1, ?_⟩
    conv => whnf
    refine ⟨_, same_law l l (by omega) (by omega), ?_⟩
    conv => whnf
    rw [decide_eq_true (rfl : l = l)]
    conv => whnf
    refine .inl (congrArg tb ?_)
    rw [bytesR_len, hcl]
    exact beq_self_eq_true _
  · rw [if_neg hall] at w
    refine ⟨_, w, ?_⟩
    conv => whnf
    exact .inl rfl

theorem FrameJoins_law (l : List (List UInt8)) (t : List UInt8) (hl : l.length * 24 ≤ reachBytes) (hr : ∀ p ∈ l, p.length ≤ reachBytes) (ht : t.length ≤ reachBytes) : FCv Try.prog 7 [.sl none 1 (recsR l), .sl none 1 (bytesR t)] (tb true) := by
  have hrb : reachBytes = 140737488351232 := rfl
  refine FCv_of_awp (fn := Try.f7) (c := bodyC Try.f7) Try.func7 rfl (of_decide_eq_true rfl) [] ?_
  conv => whnf
  refine ⟨_, awake_law, ?_⟩
  conv => whnf
  refine br_intro (fun h => ?_) (fun h => ?_)
  · rw [h]
    conv => whnf
    exact .inl rfl
  rw [h]
  have h1 := of_decide_eq_false h
  rw [recsR_len] at h1
  conv => whnf
  refine ⟨_, total_law l hl hr, ?_⟩
  conv => whnf
  refine br_intro (fun h => ?_) (fun h => ?_)
  · rw [h]
    conv => whnf
    exact .inl rfl
  rw [h]
  have h3 := of_decide_eq_false h
  have h4 := tally_small l 0 (by omega)
  have h5 := size_lens l
  have hsz : size l ≤ 66016 := by omega
  conv => whnf
  refine br_intro (fun h => ?_) (fun h => ?_)
  · rw [h]
    conv => whnf
    exact .inl rfl
  rw [h]
  have h2 := of_decide_eq_false h
  rw [bytesR_len] at h2
  conv => whnf
  have w := whole_law l (by omega) hr
  unfold wholeT at w
  by_cases hall : ∀ p ∈ l, p.length ≤ 4096
  · rw [if_pos hall] at w
    refine ⟨_, w, ?_⟩
    conv => whnf
    have n1 : (Try.prog.types[5]).bytes = 1 := rfl
    have hcl := cat_len l
    have hsc := scan_cat l t hall
    have hst := size_scan t
    have hgt := size_ge (scan t)
    have hgl := size_ge l
    refine ⟨rfl, by rw [n1, bytesR_len]; show (0 + (cat l).length) * 1 ≤ _; omega, by rw [bytesR_len]; show 0 + (cat l).length ≤ _; omega, ?_⟩
    conv => whnf
    refine ⟨?_, ?_, ?_, ?_⟩
    · simp only [List.length_append]
    · rw [n1, List.length_append, bytesR_len, bytesR_len]; show (0 + (cat l).length + t.length) * 1 ≤ _; omega
    · rw [List.length_append, bytesR_len, bytesR_len]; show 0 + (cat l).length + t.length ≤ _; omega
    conv => whnf
    have s1 := scan_law (cat l ++ t) (by rw [List.length_append]; omega)
    rw [hsc, ← bytesR_append] at s1
    refine ⟨_, s1, ?_⟩
    conv => whnf
    refine ⟨_, scan_law t (by omega), ?_⟩
    conv => whnf
    have n2 : (Try.prog.types[22]).bytes = 24 := rfl
    refine ⟨rfl, by rw [n2, recsR_len]; show (0 + l.length) * 24 ≤ _; omega, by rw [recsR_len]; show 0 + l.length ≤ _; omega, ?_⟩
    conv => whnf
    refine ⟨?_, ?_, ?_, ?_⟩
    · simp only [List.length_append]
    · rw [n2, List.length_append, recsR_len, recsR_len]; show (0 + l.length + (scan t).length) * 24 ≤ _; omega
    · rw [List.length_append, recsR_len, recsR_len]; show 0 + l.length + (scan t).length ≤ _; omega
    conv => whnf
    have sm := same_law (l ++ scan t) (l ++ scan t) (by rw [List.length_append]; omega) (by rw [List.length_append]; omega)
    rw [decide_eq_true (rfl : l ++ scan t = l ++ scan t)] at sm
    have sm2 : FCv Try.prog 15 [.sl none 1 (recsR (l ++ scan t)), .sl none 1 ([] ++ recsR l ++ recsR (scan t))] (tb true) := by
      have e : [] ++ recsR l ++ recsR (scan t) = recsR (l ++ scan t) := by simp [recsR]
      rw [e]
      exact sm
    refine ⟨_, sm2, ?_⟩
    conv => whnf
    refine .inl (congrArg tb ?_)
    rw [bytesR_len, hcl, size_append, wrap_i64 _ (by omega) (by omega)]
    exact beq_iff_eq.2 (by omega)
  · rw [if_neg hall] at w
    refine ⟨_, w, ?_⟩
    conv => whnf
    exact .inl rfl
end Go.AW.Frm
