import Derived.Test.YtagligpagpaceaaP3
/- Items counted, texts counted, items compared; plain. -/
set_option linter.unusedVariables false
set_option linter.unusedSimpArgs false
namespace Go.AW.Wir
open Go Go.AW

mutual
/-- How many items there are, and how deep: up to some. -/
def itN : It → Int → Int → Int × Int
  | .mk _ _ _ l, most, deep => itNL l most deep 1 deep
def itNL : List It → Int → Int → Int → Int → Int × Int
  | [], _, _, n, d => (n, d)
  | i :: r, most, deep, n, d => if n ≤ most ∧ deep ≤ 12 then itNL r most deep (n + (itN i (most - n) (deep + 1)).1) (if d < (itN i (most - n) (deep + 1)).2 then (itN i (most - n) (deep + 1)).2 else d) else (n, d)
end
theorem itN_mk (k n : Int) (s : List UInt8) (l : List It) (most deep : Int) : itN (.mk k n s l) most deep = itNL l most deep 1 deep := by rw [itN]
theorem itNL_nil (most deep n d : Int) : itNL [] most deep n d = (n, d) := by rw [itNL]
theorem itNL_cons (i : It) (r : List It) (most deep n d : Int) : itNL (i :: r) most deep n d = if n ≤ most ∧ deep ≤ 12 then itNL r most deep (n + (itN i (most - n) (deep + 1)).1) (if d < (itN i (most - n) (deep + 1)).2 then (itN i (most - n) (deep + 1)).2 else d) else (n, d) := by rw [itNL]
mutual
theorem itN_rng : ∀ (i : It) (most deep : Int), 0 ≤ most → deep ≤ 13 → 1 ≤ (itN i most deep).1 ∧ (itN i most deep).1 ≤ most + 1 ∧ deep ≤ (itN i most deep).2 ∧ (itN i most deep).2 ≤ 13
  | .mk _ _ _ l, most, deep, hm, hd => by
    rw [itN_mk]
    obtain ⟨h1, h2, h3, h4⟩ := itNL_rng l most deep 1 deep (by omega) hd (by omega) (by omega)
    exact ⟨h1, h2, h3, h4⟩
theorem itNL_rng : ∀ (l : List It) (most deep n d : Int), n ≤ most + 1 → deep ≤ 13 → 1 ≤ n → d ≤ 13 → n ≤ (itNL l most deep n d).1 ∧ (itNL l most deep n d).1 ≤ most + 1 ∧ d ≤ (itNL l most deep n d).2 ∧ (itNL l most deep n d).2 ≤ 13
  | [], most, deep, n, d, h1, h2, h3, h4 => by rw [itNL_nil]; exact ⟨Int.le_refl _, h1, Int.le_refl _, h4⟩
  | i :: r, most, deep, n, d, h1, h2, h3, h4 => by
    rw [itNL_cons]
    split
    · rename_i hc
      obtain ⟨g1, g2, g3, g4⟩ := itN_rng i (most - n) (deep + 1) (by omega) (by omega)
      generalize itN i (most - n) (deep + 1) = p at g1 g2 g3 g4
      have hd2 : d ≤ (if d < p.2 then p.2 else d) ∧ (if d < p.2 then p.2 else d) ≤ 13 := by split <;> omega
      obtain ⟨f1, f2, f3, f4⟩ := itNL_rng r most deep (n + p.1) (if d < p.2 then p.2 else d) (by omega) h2 (by omega) hd2.2
      exact ⟨by omega, f2, by omega, f4⟩
    · exact ⟨Int.le_refl _, h1, Int.le_refl _, h4⟩
end
mutual
theorem itN_true : ∀ (i : It) (most deep : Int), 0 ≤ most → deep ≤ 12 → (itN i most deep).1 ≤ most → (itN i most deep).2 ≤ 12 → (itN i most deep).1 = nI i ∧ (itN i most deep).2 = deep + dI i - 1
  | .mk _ _ _ l, most, deep, hm, hd, h1, h2 => by
    rw [itN_mk] at h1 h2 ⊢
    have hn : 1 ≤ most := by
      have := itNL_rng l most deep 1 deep (by omega) (by omega) (by omega) (by omega)
      omega
    obtain ⟨g1, g2⟩ := itNL_true l most deep 1 deep hn hd (by omega) (Int.le_refl _) (by omega) h1 h2
    rw [g1, g2, nI, dI]
    cases l with
    | nil => rw [nL, dL]; simp only [if_pos]; omega
    | cons i r =>
      rw [if_neg (List.cons_ne_nil _ _)]
      have : 1 ≤ dL (i :: r) := by rw [dL]; have := dI_pos i; omega
      split <;> omega
theorem itNL_true : ∀ (l : List It) (most deep n d : Int), n ≤ most → deep ≤ 12 → 1 ≤ n → deep ≤ d → d ≤ 12 → (itNL l most deep n d).1 ≤ most → (itNL l most deep n d).2 ≤ 12 →
    (itNL l most deep n d).1 = n + nL l ∧ (itNL l most deep n d).2 = if l = [] then d else if d < deep + dL l then deep + dL l else d
  | [], most, deep, n, d, h1, h2, h3, h4, h5, h6, h7 => by rw [itNL_nil, nL]; exact ⟨by simp, by rw [if_pos rfl]⟩
  | i :: r, most, deep, n, d, h1, h2, h3, h4, h5, h6, h7 => by
    rw [itNL_cons, if_pos ⟨h1, h2⟩] at h6 h7 ⊢
    have hr := itN_rng i (most - n) (deep + 1) (by omega) (by omega)
    have ht := itN_true i (most - n) (deep + 1) (by omega)
    generalize itN i (most - n) (deep + 1) = p at hr ht h6 h7 ⊢
    have hd2 : d ≤ (if d < p.2 then p.2 else d) ∧ (if d < p.2 then p.2 else d) ≤ 13 ∧ p.2 ≤ (if d < p.2 then p.2 else d) := by split <;> omega
    have hr2 := itNL_rng r most deep (n + p.1) (if d < p.2 then p.2 else d) (by omega) (by omega) (by omega) hd2.2.1
    have hn : n + p.1 ≤ most := by omega
    have hdd : (if d < p.2 then p.2 else d) ≤ 12 := by omega
    have hp2 : p.2 ≤ 12 := by omega
    obtain ⟨t1, t2⟩ := ht (by omega) (by omega) hp2
    obtain ⟨g1, g2⟩ := itNL_true r most deep (n + p.1) (if d < p.2 then p.2 else d) hn h2 (by omega) (by omega) hdd h6 h7
    rw [g1, g2, nL, dL, if_neg (List.cons_ne_nil _ _), t1, t2]
    refine ⟨by omega, ?_⟩
    have hp := dI_pos i
    cases r with
    | nil => rw [if_pos rfl, dL]; split <;> split <;> omega
    | cons a b =>
      rw [if_neg (List.cons_ne_nil _ _)]
      generalize dL (a :: b) = q
      split <;> split <;> split <;> omega
end

mutual
/-- How many bytes texts have, and what is left of how many items may be looked at. -/
def wiN : It → Int → Int → Int × Int
  | .mk _ _ s l, deep, many => if deep < 1 ∨ many - 1 < 0 then (1048577, many - 1) else wiNL l (deep - 1) (many - 1) (min (s.length : Int) 1048576)
def wiNL : List It → Int → Int → Int → Int × Int
  | [], _, many, n => (n, many)
  | i :: r, deep, many, n => if n ≤ 1048576 then wiNL r deep (wiN i deep many).2 (n + (wiN i deep many).1) else wiNL r deep many n
end
theorem wiN_mk (k n : Int) (s : List UInt8) (l : List It) (deep many : Int) : wiN (.mk k n s l) deep many = if deep < 1 ∨ many - 1 < 0 then (1048577, many - 1) else wiNL l (deep - 1) (many - 1) (min (s.length : Int) 1048576) := by rw [wiN]
theorem wiNL_nil (deep many n : Int) : wiNL [] deep many n = (n, many) := by rw [wiNL]
theorem wiNL_cons (i : It) (r : List It) (deep many n : Int) : wiNL (i :: r) deep many n = if n ≤ 1048576 then wiNL r deep (wiN i deep many).2 (n + (wiN i deep many).1) else wiNL r deep many n := by rw [wiNL]
/-- What is told of a count of bytes. -/
def wiOk (deep many : Int) (p : Int × Int) : Prop := 0 ≤ p.1 ∧ p.1 ≤ 1048577 * (deep + 2) ∧ -1 ≤ p.2 ∧ p.2 ≤ many ∧ (p.2 < 0 → 1048576 < p.1)
mutual
theorem wiN_rng : ∀ (i : It) (deep many : Int), 0 ≤ deep → 0 ≤ many → wiOk deep many (wiN i deep many)
  | .mk _ _ s l, deep, many, hd, hm => by
    rw [wiN_mk]
    split
    · exact ⟨by dsimp only; omega, by dsimp only; omega, by dsimp only; omega, by dsimp only; omega, fun _ => by dsimp only; omega⟩
    · obtain ⟨h1, h2, h3, h4, h5⟩ := wiNL_rng l (deep - 1) (many - 1) (min (s.length : Int) 1048576) (by omega) (by omega) (by omega) (by omega) (by omega)
      exact ⟨h1, by omega, h3, by omega, h5⟩
theorem wiNL_rng : ∀ (l : List It) (deep many n : Int), 0 ≤ deep → -1 ≤ many → 0 ≤ n → n ≤ 1048577 * (deep + 3) → (many < 0 → 1048576 < n) →
    0 ≤ (wiNL l deep many n).1 ∧ (wiNL l deep many n).1 ≤ 1048577 * (deep + 3) ∧ -1 ≤ (wiNL l deep many n).2 ∧ (wiNL l deep many n).2 ≤ many ∧ ((wiNL l deep many n).2 < 0 → 1048576 < (wiNL l deep many n).1)
  | [], deep, many, n, h1, h2, h3, h4, h5 => by rw [wiNL_nil]; exact ⟨h3, h4, h2, Int.le_refl _, h5⟩
  | i :: r, deep, many, n, h1, h2, h3, h4, h5 => by
    rw [wiNL_cons]
    split
    · rename_i hn
      obtain ⟨g1, g2, g3, g4, g5⟩ := wiN_rng i deep many h1 (by omega)
      generalize wiN i deep many = p at g1 g2 g3 g4 g5
      obtain ⟨f1, f2, f3, f4, f5⟩ := wiNL_rng r deep p.2 (n + p.1) h1 g3 (by omega) (by omega) (by omega)
      exact ⟨f1, f2, f3, by omega, f5⟩
    · exact wiNL_rng r deep many n h1 h2 h3 h4 h5
end
end Go.AW.Wir
