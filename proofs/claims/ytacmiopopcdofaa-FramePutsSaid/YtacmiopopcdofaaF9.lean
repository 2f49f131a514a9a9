/- Frames: the law of sizes. -/
import Derived.Test.YtacmiopopcdofaaF8
set_option linter.unusedVariables false
set_option linter.unusedSimpArgs false
namespace Go.AW.Frm
open Go Go.AW Go.Proofs
open Go.AW.Crc
set_option maxRecDepth 10000
set_option pp.maxSteps 600

/-- The records that are not too long. -/
def fit (l : List (List UInt8)) : List (List UInt8) := l.filter fun p => decide (p.length ≤ 4096)
theorem fit_size (l : List (List UInt8)) : size (fit l) ≤ size l := by
  induction l with
  | nil => exact Nat.le_refl _
  | cons p r ih =>
    unfold fit at ih ⊢
    rw [List.filter_cons]
    split <;> simp only [size] <;> omega
theorem fit_ok (l : List (List UInt8)) : ∀ p ∈ fit l, p.length ≤ 4096 := fun p hp => of_decide_eq_true (List.mem_filter.1 hp).2

theorem FrameSizes_law (l : List (List UInt8)) (hl : l.length * 24 ≤ reachBytes) (hr : ∀ p ∈ l, p.length ≤ reachBytes) : FCv Try.prog 9 [.sl none 1 (recsR l)] (tb true) := by
  have hrb : reachBytes = 140737488351232 := rfl
  refine FCv_of_awp (fn := Try.f9) (c := bodyC Try.f9) Try.func9 rfl (of_decide_eq_true rfl) [] ?_
  conv => whnf
  refine ⟨_, awake_law, ?_⟩
  conv => whnf
  refine br_intro (fun h => ?_) (fun h => ?_)
  · rw [h]
    conv => whnf
    exact .inl rfl
  rw [h]
  have h1 := of_decide_eq_false h
  rw [recsR_len] at h1
  conv => whnf
  refine ⟨_, total_law l hl hr, ?_⟩
  conv => whnf
  refine br_intro (fun h => ?_) (fun h => ?_)
  · rw [h]
    conv => whnf
    exact .inl rfl
  rw [h]
  have h3 := of_decide_eq_false h
  have h4 := tally_small l 0 (by omega)
  have h5 := size_lens l
  have hsz : size l ≤ 66016 := by omega
  conv => whnf
  refine loop_intro (fun k : Fin (l.length + 1) => ⟨[(0, .sl none 1 (recsR l)), (3, .sl none 1 (bytesR (cat (fit (l.take k.1))))), (4, i64 (size (fit (l.take k.1)) : Nat)), (22, i64 (l.length : Nat)), (23, i64 (k.1 : Nat))], [], 70, 1, []⟩) (fun k => l.length - k.1) 0 ?_ ?_
  · exact Wk.intro [] rfl (fun p hp => by cases hp) ⟨.same rfl trivial, .inr (.inr (.inr (.inr ⟨_, _, _, rfl, rfl⟩))), .same rfl trivial, .same (congrArg i64 (by rw [recsR_len])) trivial, .same rfl trivial, trivial⟩ trivial
  rintro ⟨k, hk⟩
  dsimp only
  conv => whnf
  have hst := size_take l k
  have hft := fit_size (l.take k)
  have hcl := cat_len (fit (l.take k))
  refine br_intro (fun h => ?_) (fun h => ?_)
  · rw [h]
    have hk2 : k < l.length := by have := of_decide_eq_true h; omega
    have hv : l[k]? = some l[k] := List.getElem?_eq_getElem hk2
    have hm : l[k] ∈ l := List.getElem_mem hk2
    conv => whnf
    refine ⟨by omega, nthK_intro (recsR_get hv) ?_⟩
    conv => whnf
    have pl := put_law (cat (fit (l.take k))) l[k] (by omega) (hr _ hm)
    unfold putT at pl
    have htk : l.take (k + 1) = l.take k ++ [l[k]] := by rw [List.take_add_one, hv]; rfl
    by_cases h4 : l[k].length > 4096
    · rw [if_pos h4] at pl
      refine ⟨_, pl, ?_⟩
      conv => whnf
      refine ⟨by omega, nthK_intro (recsR_get hv) ?_⟩
      conv => whnf
      rw [show decide (((bytesR l[k]).length : Int) ≤ 4096) = false from decide_eq_false (by rw [bytesR_len]; omega)]
      conv => whnf
      have hfk : fit (l.take (k + 1)) = fit (l.take k) := by
        rw [htk]; unfold fit
        rw [List.filter_append, List.filter_cons_of_neg (by simpa using h4), List.filter_nil, List.append_nil]
      refine Nx.intro ⟨k + 1, by omega⟩ (by simp only; omega) ?_
      refine Wk.intro [] rfl (fun p hp => by cases hp) ⟨.same rfl trivial, .same (congrArg (fun z => T.sl none 1 (bytesR (cat z))) hfk.symm) trivial, .same (congrArg (fun z => i64 ((size z : Nat) : Int)) hfk.symm) trivial, .same rfl trivial, .same (congrArg i64 ?_) trivial, trivial⟩ trivial
      rw [wrap_i64 _ (by omega) (by omega)]; rfl
    · rw [if_neg h4] at pl
      refine ⟨_, pl, ?_⟩
      conv => whnf
      refine ⟨by omega, nthK_intro (recsR_get hv) ?_⟩
      conv => whnf
      rw [show decide (((bytesR l[k]).length : Int) ≤ 4096) = true from decide_eq_true (by rw [bytesR_len]; omega)]
      conv => whnf
      refine ⟨by omega, nthK_intro (recsR_get hv) ?_⟩
      conv => whnf
      have hfk : fit (l.take (k + 1)) = fit (l.take k) ++ [l[k]] := by
        rw [htk]; unfold fit
        rw [List.filter_append, List.filter_cons_of_pos (by simp; omega), List.filter_nil]
      refine Nx.intro ⟨k + 1, by omega⟩ (by simp only; omega) ?_
      refine Wk.intro [] rfl (fun p hp => by cases hp) ⟨.same rfl trivial, .same (congrArg (T.sl none 1) (congrArg bytesR ?_)) trivial, .same (congrArg i64 ?_) trivial, .same rfl trivial, .same (congrArg i64 ?_) trivial, trivial⟩ trivial
      · simp only [hfk, cat_append, cat, List.append_nil]
      · have hb := bytesR_len l[k]
        rw [hb, hfk, size_append, size, size, wrap_i64 (8 + ((l[k].length : Nat) : Int)) (by omega) (by omega), wrap_i64 _ (by omega) (by omega)]
        omega
      · rw [wrap_i64 _ (by omega) (by omega)]; rfl
  · rw [h]
    have hk2 : k = l.length := by have := of_decide_eq_false h; omega
    conv => whnf
    rw [hk2, List.take_length] at hcl hft ⊢
    have hsc := scan_cat (fit l) [] (fit_ok l)
    rw [scan_short (t := []) (by decide), List.append_nil, List.append_nil] at hsc
    have s1 := scan_law (cat (fit l)) (by omega)
    rw [hsc] at s1
    refine ⟨_, s1, ?_⟩
    conv => whnf
    rw [show (((bytesR (cat (fit l))).length : Int) == (size (fit l) : Int)) = true by rw [bytesR_len, hcl]; exact beq_self_eq_true _]
    conv => whnf
    exact .inl (congrArg tb (beq_self_eq_true _))
end Go.AW.Frm
