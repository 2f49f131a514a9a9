/- Frames: what the laws' helpers compute. -/
import Derived.Test.YtacmiopopcdofaaF4
set_option linter.unusedVariables false
set_option linter.unusedSimpArgs false
namespace Go.AW.Frm
open Go Go.AW Go.Proofs
open Go.AW.Crc
set_option maxRecDepth 10000
set_option pp.maxSteps 600

/-- The bytes of the records, as far as they are counted. -/
def tally : Nat → List (List UInt8) → Nat
  | n, [] => n
  | n, p :: r => if n + min p.length 131072 > 65536 then n + min p.length 131072 else tally (n + min p.length 131072) r
theorem tally_cons (n : Nat) (p : List UInt8) (r : List (List UInt8)) : tally n (p :: r) = if n + min p.length 131072 > 65536 then n + min p.length 131072 else tally (n + min p.length 131072) r := rfl
def lens : List (List UInt8) → Nat
  | [] => 0
  | p :: r => p.length + lens r
theorem tally_small : ∀ (l : List (List UInt8)) (n : Nat), tally n l ≤ 65536 → tally n l = n + lens l
  | [], n, _ => rfl
  | p :: r, n, h => by
    unfold tally at h ⊢
    split at h
    · omega
    · rename_i hs
      rw [if_neg hs, tally_small r _ h, lens]
      omega
theorem tally_lt : ∀ (l : List (List UInt8)) (n : Nat), n ≤ 65536 → tally n l ≤ 196608
  | [], n, h => by unfold tally; omega
  | p :: r, n, h => by
    unfold tally
    split
    · omega
    · exact tally_lt r _ (by omega)
theorem lens_mem : ∀ {l : List (List UInt8)} {p : List UInt8}, p ∈ l → p.length ≤ lens l
  | q :: r, p, h => by
    unfold lens
    rcases List.mem_cons.1 h with rfl | h
    · omega
    · have := lens_mem h; omega

theorem recsR_get {l : List (List UInt8)} {i : Nat} {p : List UInt8} (h : l[i]? = some p) : (recsR l)[i]? = some [.sl none 1 (bytesR p)] := by
  unfold recsR; rw [List.getElem?_map, h]; rfl
theorem total_law (l : List (List UInt8)) (hl : l.length * 24 ≤ reachBytes) (hb : ∀ p ∈ l, p.length ≤ reachBytes) : FCv Try.prog 16 [.sl none 1 (recsR l)] (i64 (tally 0 l : Nat)) := by
  have hrb : reachBytes = 140737488351232 := rfl
  refine FCv_of_awp (fn := Try.f16) (c := bodyC Try.f16) Try.func16 rfl (of_decide_eq_true rfl) [] ?_
  conv => whnf
  refine loop_intro (fun q : {q : Nat × Nat // q.1 ≤ l.length ∧ q.2 ≤ 65536 ∧ tally q.2 (l.drop q.1) = tally 0 l} => ⟨[(0, .sl none 1 (recsR l)), (3, i64 (q.1.2 : Nat)), (6, i64 (l.length : Nat)), (7, i64 (q.1.1 : Nat))], [], 23, 0, []⟩) (fun q => l.length - q.1.1) ⟨(0, 0), Nat.zero_le _, by decide, rfl⟩ ?_ ?_
  · exact Wk.intro [] rfl (fun p hp => by cases hp) ⟨.same rfl trivial, .same rfl trivial, .same (congrArg i64 (by rw [recsR_len])) trivial, .same rfl trivial, trivial⟩ trivial
  rintro ⟨⟨k, n⟩, hk, hn, ht⟩
  dsimp only at hk hn ht ⊢
  conv => whnf
  refine br_intro (fun h => ?_) (fun h => ?_)
  · rw [h]
    have hk2 : k < l.length := by have := of_decide_eq_true h; omega
    conv => whnf
    have hv : l[k]? = some l[k] := List.getElem?_eq_getElem hk2
    refine ⟨by omega, nthK_intro (recsR_get hv) ?_⟩
    have hp := hb _ (List.getElem_mem hk2)
    conv => whnf
    have hd : l.drop k = l[k] :: l.drop (k + 1) := List.drop_eq_getElem_cons hk2
    rw [hd, tally_cons] at ht
    have em : IntKind.i64.wrap ((n : Int) + mnI ((bytesR l[k]).length : Int) 131072) = ((n + min l[k].length 131072 : Nat) : Int) := by
      rw [bytesR_len, show (131072 : Int) = ((131072 : Nat) : Int) from rfl, mnI_min, wrap_i64 _ (by omega) (by omega)]
      omega
    rw [em]
    refine br_intro (fun h => ?_) (fun h => ?_)
    · rw [h]
      have hbig : n + min l[k].length 131072 > 65536 := by have := of_decide_eq_true h; omega
      rw [if_pos hbig] at ht
      conv => whnf
      rw [ht]
      exact Or.inl rfl
    · rw [h]
      have hbig : ¬ n + min l[k].length 131072 > 65536 := by have := of_decide_eq_false h; omega
      rw [if_neg hbig] at ht
      conv => whnf
      refine Nx.intro ⟨(k + 1, n + min l[k].length 131072), by simp only; omega, by simp only; omega, ht⟩ (by simp only; omega) ?_
      refine Wk.intro [] rfl (fun p hp => by cases hp) ⟨.same rfl trivial, .same rfl trivial, .same rfl trivial, .same (congrArg i64 ?_) trivial, trivial⟩ trivial
      rw [wrap_i64 _ (by omega) (by omega)]; rfl
  · rw [h]
    have hk2 : ¬ k < l.length := by have := of_decide_eq_false h; omega
    conv => whnf
    rw [List.drop_eq_nil_of_le (by omega)] at ht
    rw [← ht]
    exact Or.inl rfl

end Go.AW.Frm
