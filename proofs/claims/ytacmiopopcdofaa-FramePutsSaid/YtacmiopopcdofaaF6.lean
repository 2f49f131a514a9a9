/- Frames: records one behind the other; lists of bytes compared. -/
import Derived.Test.YtacmiopopcdofaaF5
set_option linter.unusedVariables false
set_option linter.unusedSimpArgs false
namespace Go.AW.Frm
open Go Go.AW Go.Proofs
open Go.AW.Crc
set_option maxRecDepth 10000
set_option pp.maxSteps 600

def cat : List (List UInt8) → List UInt8
  | [] => []
  | p :: r => recB p ++ cat r
theorem cat_append (a b : List (List UInt8)) : cat (a ++ b) = cat a ++ cat b := by
  induction a with
  | nil => rfl
  | cons x r ih => simp only [List.cons_append, cat, ih, List.append_assoc]
theorem cat_len (l : List (List UInt8)) : (cat l).length = size l := by
  induction l with
  | nil => rfl
  | cons x r ih => simp only [cat, List.length_append, recB_len, size, ih]
theorem size_take (l : List (List UInt8)) : ∀ k, size (l.take k) ≤ size l := by
  intro k
  have := size_append (l.take k) (l.drop k)
  rw [List.take_append_drop] at this
  omega
def wholeT (l : List (List UInt8)) : T := if ∀ p ∈ l, p.length ≤ 4096 then .tup [.sl none 1 (bytesR (cat l)), tb true] else .tup [.lit (.slice none 0 0), tb false]

theorem whole_law (l : List (List UInt8)) (hl : size l ≤ 1000000000) (hr : ∀ p ∈ l, p.length ≤ reachBytes) : FCv Try.prog 17 [.sl none 1 (recsR l)] (wholeT l) := by
  have hrb : reachBytes = 140737488351232 := rfl
  have hsz := size_ge l
  refine FCv_of_awp (fn := Try.f17) (c := bodyC Try.f17) Try.func17 rfl (of_decide_eq_true rfl) [] ?_
  conv => whnf
  refine loop_intro (fun k : {k : Nat // k ≤ l.length ∧ ∀ p ∈ l.take k, p.length ≤ 4096} => ⟨[(0, .sl none 1 (recsR l)), (4, .sl none 1 (bytesR (cat (l.take k.1)))), (10, i64 (l.length : Nat)), (11, i64 (k.1 : Nat))], [], 28, 1, []⟩) (fun k => l.length - k.1) ⟨0, Nat.zero_le _, fun p hp => by cases hp⟩ ?_ ?_
  · exact Wk.intro [] rfl (fun p hp => by cases hp) ⟨.same rfl trivial, .inr (.inr (.inr (.inr ⟨_, _, _, rfl, rfl⟩))), .same (congrArg i64 (by rw [recsR_len])) trivial, .same rfl trivial, trivial⟩ trivial
  rintro ⟨k, hk, hall⟩
  dsimp only at hk hall ⊢
  conv => whnf
  refine br_intro (fun h => ?_) (fun h => ?_)
  · rw [h]
    have hk2 : k < l.length := by have := of_decide_eq_true h; omega
    have hv : l[k]? = some l[k] := List.getElem?_eq_getElem hk2
    have hm : l[k] ∈ l := List.getElem_mem hk2
    conv => whnf
    refine ⟨by omega, nthK_intro (recsR_get hv) ?_⟩
    conv => whnf
    have hst := size_take l k
    have pl := put_law (cat (l.take k)) l[k] (by rw [cat_len]; omega) (hr _ hm)
    unfold putT at pl
    have htk : l.take (k + 1) = l.take k ++ [l[k]] := by rw [List.take_add_one, hv]; rfl
    by_cases h4 : l[k].length > 4096
    · rw [if_pos h4] at pl
      refine ⟨_, pl, ?_⟩
      conv => whnf
      unfold wholeT
      rw [if_neg (fun hh => absurd (hh _ hm) (by omega))]
      exact ⟨Or.inl rfl, Or.inl rfl, trivial⟩
    · rw [if_neg h4] at pl
      refine ⟨_, pl, ?_⟩
      conv => whnf
      refine Nx.intro ⟨k + 1, by omega, ?_⟩ (by simp only; omega) ?_
      · intro p hp
        rw [htk] at hp
        rcases List.mem_append.1 hp with hp | hp
        · exact hall p hp
        · cases List.mem_singleton.1 hp; omega
      · refine Wk.intro [] rfl (fun p hp => by cases hp) ⟨.same rfl trivial, .same (congrArg (T.sl none 1) (congrArg bytesR ?_)) trivial, .same rfl trivial, .same (congrArg i64 ?_) trivial, trivial⟩ trivial
        · simp only; rw [htk, cat_append]; simp [cat]
        · rw [wrap_i64 _ (by omega) (by omega)]; rfl
  · rw [h]
    have hk2 : k = l.length := by have := of_decide_eq_false h; omega
    conv => whnf
    rw [hk2, List.take_length] at hall ⊢
    unfold wholeT
    rw [if_pos hall]
    exact ⟨Or.inl rfl, Or.inl rfl, trivial⟩

theorem toList_inj {x y : List UInt8} (h : ByteArray.toList ⟨x.toArray⟩ = ByteArray.toList ⟨y.toArray⟩) : x = y := by
  rw [ByteArray.toList_eq, ByteArray.toList_eq] at h
  simpa using h
theorem same_law (a b : List (List UInt8)) (ha : a.length ≤ 1000000000) (hb : b.length ≤ 1000000000) : FCv Try.prog 15 [.sl none 1 (recsR a), .sl none 1 (recsR b)] (tb (decide (a = b))) := by
  refine FCv_of_awp (fn := Try.f15) (c := bodyC Try.f15) Try.func15 rfl (of_decide_eq_true rfl) [] ?_
  conv => whnf
  rw [recsR_len, recsR_len]
  by_cases hlen : a.length = b.length
  · rw [show (((a.length : Nat) : Int) != ((b.length : Nat) : Int)) = false by rw [hlen]; simp]
    conv => whnf
    refine loop_intro (fun k : {k : Nat // k ≤ a.length ∧ a.take k = b.take k} => ⟨[(0, .sl none 1 (recsR a)), (1, .sl none 1 (recsR b)), (12, i64 (a.length : Nat)), (13, i64 (k.1 : Nat))], [], 28, 0, []⟩) (fun k => a.length - k.1) ⟨0, Nat.zero_le _, rfl⟩ ?_ ?_
    · exact Wk.intro [] rfl (fun p hp => by cases hp) ⟨.same rfl trivial, .same rfl trivial, .same (congrArg i64 (by rw [recsR_len])) trivial, .same rfl trivial, trivial⟩ trivial
    rintro ⟨k, hk, hall⟩
    dsimp only at hk hall ⊢
    conv => whnf
    refine br_intro (fun h => ?_) (fun h => ?_)
    · rw [h]
      have hk2 : k < a.length := by have := of_decide_eq_true h; omega
      have hv : a[k]? = some a[k] := List.getElem?_eq_getElem hk2
      have hw : b[k]? = some b[k] := List.getElem?_eq_getElem (by omega)
      conv => whnf
      refine ⟨by omega, nthK_intro (recsR_get hv) ?_⟩
      conv => whnf
      refine ⟨_, ⟨rfl, rfl⟩, ?_⟩
      conv => whnf
      refine ⟨by omega, nthK_intro (recsR_get hw) ?_⟩
      conv => whnf
      refine ⟨_, ⟨rfl, rfl⟩, ?_⟩
      conv => whnf
      by_cases he : a[k] = b[k]
      · rw [show (!(ByteArray.toList ⟨a[k].toArray⟩ == ByteArray.toList ⟨b[k].toArray⟩)) = false by rw [he]; simp]
        conv => whnf
        refine Nx.intro ⟨k + 1, by omega, ?_⟩ (by simp only; omega) ?_
        · rw [List.take_add_one, List.take_add_one, hv, hw, hall, he]
        · refine Wk.intro [] rfl (fun p hp => by cases hp) ⟨.same rfl trivial, .same rfl trivial, .same rfl trivial, .same (congrArg i64 ?_) trivial, trivial⟩ trivial
          rw [wrap_i64 _ (by omega) (by omega)]; rfl
      · have hne : (!(ByteArray.toList ⟨a[k].toArray⟩ == ByteArray.toList ⟨b[k].toArray⟩)) = true := by
          rw [Bool.not_eq_true', beq_eq_false_iff_ne]
          exact fun e => he (toList_inj e)
        rw [hne]
        conv => whnf
        rw [show decide (a = b) = false by exact decide_eq_false (fun e => by subst e; exact he rfl)]
        exact Or.inl rfl
    · rw [h]
      have hk2 : k = a.length := by have := of_decide_eq_false h; omega
      conv => whnf
      rw [hk2, List.take_length, hlen, List.take_length] at hall
      rw [show decide (a = b) = true by exact decide_eq_true hall]
      exact Or.inl rfl
  · rw [show (((a.length : Nat) : Int) != ((b.length : Nat) : Int)) = true by rw [bne_iff_ne]; exact fun e => hlen (Int.ofNat.inj e)]
    conv => whnf
    rw [show decide (a = b) = false by exact decide_eq_false (fun e => hlen (congrArg _ e))]
    exact Or.inl rfl
end Go.AW.Frm
