import Derived.Test.YtagligpagpaceaaP1
/- The reference's reader; plain. -/
set_option linter.unusedVariables false
set_option linter.unusedSimpArgs false
namespace Go.AW.Wir
open Go Go.AW

/-- One byte read: its number, where one stands, whether it went wrong. -/
def rbyte (b : List UInt8) (a : Nat) (bad : Bool) : Nat × Nat × Bool :=
  if bad = true then (0, a, true) else match b[a]? with
    | none => (0, a, true)
    | some c => (c.toNat, a + 1, false)
/-- A count's bytes read. -/
def rcl (b : List UInt8) (k : Nat) : Nat → Nat → Nat → Nat → Bool → Nat × Nat × Bool
  | 0, _, n, a, bad => (n, a, bad)
  | d + 1, j, n, a, bad => if bad = true then (n, a, bad) else
      rcl b k d (j + 1) ((n * 256 + (rbyte b a false).1) % 18446744073709551616) (rbyte b a false).2.1 (if (j = 0 ∧ (rbyte b a false).1 = 0) ∨ 8 < k then true else (rbyte b a false).2.2)
def rcount (b : List UInt8) (a : Nat) (bad : Bool) : Nat × Nat × Bool :=
  rcl b (rbyte b a bad).1 (rbyte b a bad).1 0 0 (rbyte b a bad).2.1 (rbyte b a bad).2.2
mutual
def ritem (b : List UInt8) : Nat → Int → Nat → It × Int × Nat × Bool
  | 0, left, a => (.mk 0 0 [] [], left - 1, a, true)
  | f + 1, left, a => if left - 1 < 0 then (.mk 0 0 [] [], left - 1, a, true) else
      if (rbyte b a false).1 = 1 then (.mk 1 (unzig (rcount b (rbyte b a false).2.1 (rbyte b a false).2.2).1) [] [], left - 1, (rcount b (rbyte b a false).2.1 (rbyte b a false).2.2).2)
      else if (rbyte b a false).1 = 2 then
        (if 4096 < (rcount b (rbyte b a false).2.1 (rbyte b a false).2.2).1 ∨ (rcount b (rbyte b a false).2.1 (rbyte b a false).2.2).2.2 = true ∨ b.length - (rcount b (rbyte b a false).2.1 (rbyte b a false).2.2).2.1 < (rcount b (rbyte b a false).2.1 (rbyte b a false).2.2).1 then
            (.mk 2 0 [] [], left - 1, (rcount b (rbyte b a false).2.1 (rbyte b a false).2.2).2.1, true)
          else (.mk 2 0 ((b.drop (rcount b (rbyte b a false).2.1 (rbyte b a false).2.2).2.1).take (rcount b (rbyte b a false).2.1 (rbyte b a false).2.2).1) [], left - 1, (rcount b (rbyte b a false).2.1 (rbyte b a false).2.2).2.1 + (rcount b (rbyte b a false).2.1 (rbyte b a false).2.2).1, false))
      else if (rbyte b a false).1 = 3 then
        (.mk 3 0 [] (ritems b f (rcount b (rbyte b a false).2.1 (rbyte b a false).2.2).1 [] (left - 1) (rcount b (rbyte b a false).2.1 (rbyte b a false).2.2).2.1 (if 4096 < (rcount b (rbyte b a false).2.1 (rbyte b a false).2.2).1 then true else (rcount b (rbyte b a false).2.1 (rbyte b a false).2.2).2.2)).1,
          (ritems b f (rcount b (rbyte b a false).2.1 (rbyte b a false).2.2).1 [] (left - 1) (rcount b (rbyte b a false).2.1 (rbyte b a false).2.2).2.1 (if 4096 < (rcount b (rbyte b a false).2.1 (rbyte b a false).2.2).1 then true else (rcount b (rbyte b a false).2.1 (rbyte b a false).2.2).2.2)).2)
      else (.mk (rbyte b a false).1 0 [] [], left - 1, (rbyte b a false).2.1, true)
def ritems (b : List UInt8) : Nat → Nat → List It → Int → Nat → Bool → List It × Int × Nat × Bool
  | _, 0, acc, left, a, bad => (acc, left, a, bad)
  | f, n + 1, acc, left, a, bad => if bad = true then (acc, left, a, bad) else
      ritems b f n (acc ++ [(ritem b f left a).1]) (ritem b f left a).2.1 (ritem b f left a).2.2.1 (ritem b f left a).2.2.2
end
theorem ritem_zero (b : List UInt8) (left : Int) (a : Nat) : ritem b 0 left a = (.mk 0 0 [] [], left - 1, a, true) := by rw [ritem.eq_def]
theorem ritem_succ (b : List UInt8) (f : Nat) (left : Int) (a : Nat) {k a1 : Nat} {bad1 : Bool} (h1 : rbyte b a false = (k, a1, bad1)) {n a2 : Nat} {bad2 : Bool} (h2 : rcount b a1 bad1 = (n, a2, bad2)) :
    ritem b (f + 1) left a = if left - 1 < 0 then (.mk 0 0 [] [], left - 1, a, true) else
      if k = 1 then (.mk 1 (unzig n) [] [], left - 1, a2, bad2)
      else if k = 2 then (if 4096 < n ∨ bad2 = true ∨ b.length - a2 < n then (.mk 2 0 [] [], left - 1, a2, true) else (.mk 2 0 ((b.drop a2).take n) [], left - 1, a2 + n, false))
      else if k = 3 then (.mk 3 0 [] (ritems b f n [] (left - 1) a2 (if 4096 < n then true else bad2)).1, (ritems b f n [] (left - 1) a2 (if 4096 < n then true else bad2)).2)
      else (.mk k 0 [] [], left - 1, a1, true) := by
  rw [ritem.eq_def]
  simp only [h1, h2]
theorem ritems_zero (b : List UInt8) (f : Nat) (acc : List It) (left : Int) (a : Nat) (bad : Bool) : ritems b f 0 acc left a bad = (acc, left, a, bad) := by rw [ritems.eq_def]
theorem ritems_succ (b : List UInt8) (f n : Nat) (acc : List It) (left : Int) (a : Nat) (bad : Bool) : ritems b f (n + 1) acc left a bad = if bad = true then (acc, left, a, bad) else
      ritems b f n (acc ++ [(ritem b f left a).1]) (ritem b f left a).2.1 (ritem b f left a).2.2.1 (ritem b f left a).2.2.2 := by rw [ritems.eq_def]
theorem ritems_bad (b : List UInt8) (f n : Nat) (acc : List It) (left : Int) (a : Nat) : ritems b f n acc left a true = (acc, left, a, true) := by
  cases n with
  | zero => exact ritems_zero ..
  | succ n => rw [ritems_succ, if_pos rfl]

theorem rbyte_bad (b : List UInt8) (a : Nat) : rbyte b a true = (0, a, true) := rfl
theorem rbyte_ok {b : List UInt8} {a : Nat} {c : UInt8} (h : b[a]? = some c) : rbyte b a false = (c.toNat, a + 1, false) := by
  unfold rbyte; rw [h]; rfl
theorem rbyte_no {b : List UInt8} {a : Nat} (h : b.length ≤ a) : rbyte b a false = (0, a, true) := by
  unfold rbyte; rw [List.getElem?_eq_none h]; rfl
theorem rbyte_rng (b : List UInt8) (a : Nat) (bad : Bool) (h : a ≤ b.length) : (rbyte b a bad).1 < 256 ∧ a ≤ (rbyte b a bad).2.1 ∧ (rbyte b a bad).2.1 ≤ b.length := by
  cases bad with
  | true => rw [rbyte_bad]; exact ⟨by omega, Nat.le_refl _, h⟩
  | false =>
    by_cases ha : a < b.length
    · rw [rbyte_ok (List.getElem?_eq_getElem ha)]
      exact ⟨UInt8.toNat_lt _, Nat.le_succ _, ha⟩
    · rw [rbyte_no (by omega)]; exact ⟨by omega, Nat.le_refl _, h⟩
theorem rcl_bad (b : List UInt8) (k : Nat) (d j n a : Nat) : rcl b k d j n a true = (n, a, true) := by
  cases d <;> simp [rcl]
theorem rcl_succ (b : List UInt8) (k d j n a : Nat) : rcl b k (d + 1) j n a false = rcl b k d (j + 1) ((n * 256 + (rbyte b a false).1) % 18446744073709551616) (rbyte b a false).2.1 (if (j = 0 ∧ (rbyte b a false).1 = 0) ∨ 8 < k then true else (rbyte b a false).2.2) := by
  rw [rcl, if_neg (by simp)]
theorem rcl_rng (b : List UInt8) (k : Nat) : ∀ (d j n a : Nat) (bad : Bool), a ≤ b.length → n < 18446744073709551616 → (rcl b k d j n a bad).1 < 18446744073709551616 ∧ a ≤ (rcl b k d j n a bad).2.1 ∧ (rcl b k d j n a bad).2.1 ≤ b.length
  | 0, j, n, a, bad, h, hn => by rw [rcl]; exact ⟨hn, Nat.le_refl _, h⟩
  | d + 1, j, n, a, true, h, hn => by rw [rcl_bad]; exact ⟨hn, Nat.le_refl _, h⟩
  | d + 1, j, n, a, false, h, hn => by
    rw [rcl_succ]
    obtain ⟨h1, h2, h3⟩ := rbyte_rng b a false h
    obtain ⟨g1, g2, g3⟩ := rcl_rng b k d (j + 1) ((n * 256 + (rbyte b a false).1) % 18446744073709551616) (rbyte b a false).2.1 (if (j = 0 ∧ (rbyte b a false).1 = 0) ∨ 8 < k then true else (rbyte b a false).2.2) h3 (Nat.mod_lt _ (by decide))
    exact ⟨g1, by omega, g3⟩
theorem rcount_rng (b : List UInt8) (a : Nat) (bad : Bool) (h : a ≤ b.length) : (rcount b a bad).1 < 18446744073709551616 ∧ a ≤ (rcount b a bad).2.1 ∧ (rcount b a bad).2.1 ≤ b.length := by
  unfold rcount
  obtain ⟨h1, h2, h3⟩ := rbyte_rng b a bad h
  obtain ⟨g1, g2, g3⟩ := rcl_rng b (rbyte b a bad).1 (rbyte b a bad).1 0 0 (rbyte b a bad).2.1 (rbyte b a bad).2.2 h3 (by decide)
  exact ⟨g1, by omega, g3⟩
/-- Bytes enough, and the first one not 0. -/
theorem rcl_ok (b : List UInt8) (k : Nat) (hk : k ≤ 8) : ∀ (d j n a : Nat), j + d = k → a + d ≤ b.length → n < 256 ^ j → (j = 0 → 0 < d → b[a]? ≠ some 0) →
    rcl b k d j n a false = (((b.drop a).take d).foldl (fun n c => n * 256 + c.toNat) n, a + d, false)
  | 0, j, n, a, h1, h2, h3, h4 => by rw [rcl, List.take_zero]; rfl
  | d + 1, j, n, a, h1, h2, h3, h4 => by
    have ha : a < b.length := by omega
    have hb := rbyte_ok (List.getElem?_eq_getElem ha)
    rw [rcl_succ, hb]
    have hc := (b[a]).toNat_lt
    have hp : (256 : Nat) ^ (j + 1) ≤ 256 ^ 8 := Nat.pow_le_pow_right (by decide) (by omega)
    have h5 : n * 256 + (b[a]).toNat < 256 ^ (j + 1) := by rw [Nat.pow_succ]; omega
    have h0 : ¬ ((j = 0 ∧ (b[a]).toNat = 0) ∨ 8 < k) := by
      rintro (⟨e1, e2⟩ | e)
      · refine h4 e1 (by omega) ?_
        rw [List.getElem?_eq_getElem ha]
        exact congrArg some (UInt8.toNat_inj.1 e2)
      · omega
    dsimp only
    rw [if_neg h0, Nat.mod_eq_of_lt (Nat.lt_of_lt_of_le h5 hp), rcl_ok b k hk d (j + 1) _ (a + 1) (by omega) (by omega) h5 (by omega)]
    rw [List.drop_eq_getElem_cons ha, List.take_succ_cons, List.foldl_cons, show a + 1 + d = a + (d + 1) by omega]
theorem rcl_no (b : List UInt8) (k : Nat) : ∀ (d j n a : Nat) (bad : Bool), b.length < a + d → a ≤ b.length → (rcl b k d j n a bad).2.2 = true
  | d, j, n, a, true, _, _ => by rw [rcl_bad]
  | 0, j, n, a, false, h, h2 => by omega
  | d + 1, j, n, a, false, h, h2 => by
    rw [rcl_succ]
    by_cases ha : a < b.length
    · rw [rbyte_ok (List.getElem?_eq_getElem ha)]
      exact rcl_no b k d (j + 1) _ (a + 1) _ (by omega) (by omega)
    · rw [rbyte_no (by omega)]
      dsimp only
      rw [show (if (j = 0 ∧ 0 = 0) ∨ 8 < k then true else true) = true from ite_self true, rcl_bad]

theorem rcount_cnt (b : List UInt8) (a : Nat) (h : a ≤ b.length) : match cnt (b.drop a) with
    | some (n, r) => ∃ a', a' ≤ b.length ∧ r = b.drop a' ∧ rcount b a false = (n, a', false)
    | none => (rcount b a false).2.2 = true := by
  unfold rcount
  by_cases ha : a < b.length
  · rw [List.drop_eq_getElem_cons ha, rbyte_ok (List.getElem?_eq_getElem ha)]
    simp only [cnt]
    generalize hk : b[a] = kc
    have hl : (b.drop (a + 1)).length = b.length - (a + 1) := List.length_drop
    obtain ⟨k, hkk⟩ : ∃ k, kc.toNat = k := ⟨_, rfl⟩
    rw [hkk]
    by_cases h8 : k > 8 ∨ k > (b.drop (a + 1)).length
    · rw [if_pos h8]
      dsimp only
      rcases h8 with h8 | h8
      · obtain ⟨d, rfl⟩ : ∃ d, k = d + 1 := ⟨k - 1, by omega⟩
        rw [rcl_succ, if_pos (.inr h8), rcl_bad]
      · exact rcl_no b k k 0 0 (a + 1) false (by omega) (by omega)
    · rw [if_neg h8]
      by_cases h0 : 0 < k ∧ (b.drop (a + 1)).head? = some 0
      · rw [if_pos h0]
        dsimp only
        obtain ⟨d, rfl⟩ : ∃ d, k = d + 1 := ⟨k - 1, by omega⟩
        have hz : b[a + 1]? = some 0 := by rw [← h0.2, List.head?_drop]
        rw [rcl_succ, rbyte_ok hz, if_pos (.inl ⟨rfl, rfl⟩), rcl_bad]
      · rw [if_neg h0]
        dsimp only
        refine ⟨a + 1 + k, by omega, by rw [List.drop_drop], ?_⟩
        rw [rcl_ok b k (by omega) k 0 0 (a + 1) (by omega) (by omega) (by decide) (fun _ hd e => h0 ⟨hd, by rw [List.head?_drop]; exact e⟩)]
        rfl
  · rw [List.drop_of_length_le (by omega), rbyte_no (by omega)]
    simp only [cnt, rcl]

theorem ritems_dec {b : List UInt8} {f : Nat} (ih : ∀ (left : Int) (a : Nat), a ≤ b.length → match dec f left (b.drop a) with
      | some (i, l, r) => ∃ a', a' ≤ b.length ∧ r = b.drop a' ∧ ritem b f left a = (i, l, a', false)
      | none => (ritem b f left a).2.2.2 = true) :
    ∀ (n : Nat) (acc : List It) (left : Int) (a : Nat), a ≤ b.length → match decL f n left (b.drop a) with
      | some (l, z, r) => ∃ a', a' ≤ b.length ∧ r = b.drop a' ∧ ritems b f n acc left a false = (acc ++ l, z, a', false)
      | none => (ritems b f n acc left a false).2.2.2 = true
  | 0, acc, left, a, h => by
    rw [decL_zero]
    exact ⟨a, h, rfl, by rw [ritems_zero, List.append_nil]⟩
  | n + 1, acc, left, a, h => by
    rw [decL_succ, ritems_succ, if_neg (by simp)]
    have h1 := ih left a h
    cases hd : dec f left (b.drop a) with
    | none =>
      rw [hd] at h1
      dsimp only at h1 ⊢
      rw [h1, ritems_bad]
    | some p =>
      obtain ⟨i, l, r⟩ := p
      rw [hd] at h1
      dsimp only at h1 ⊢
      obtain ⟨a', ha, hr, he⟩ := h1
      rw [he, hr]
      dsimp only
      have h2 := ritems_dec ih n (acc ++ [i]) l a' ha
      cases hl : decL f n l (b.drop a') with
      | none => rw [hl] at h2; exact h2
      | some q =>
        obtain ⟨l2, z, r2⟩ := q
        rw [hl] at h2
        obtain ⟨a2, ha2, hr2, he2⟩ := h2
        exact ⟨a2, ha2, hr2, by rw [he2, List.append_assoc]; rfl⟩
theorem ritem_dec {b : List UInt8} : ∀ (f : Nat) (left : Int) (a : Nat), a ≤ b.length → match dec f left (b.drop a) with
      | some (i, l, r) => ∃ a', a' ≤ b.length ∧ r = b.drop a' ∧ ritem b f left a = (i, l, a', false)
      | none => (ritem b f left a).2.2.2 = true
  | 0, left, a, h => by rw [dec_zero, ritem_zero]
  | f + 1, left, a, h => by
    by_cases ha : a < b.length
    · have hby := rbyte_ok (List.getElem?_eq_getElem ha)
      have hc := rcount_cnt b (a + 1) (by omega)
      obtain ⟨⟨n, a2, bad2⟩, hq⟩ : ∃ p, rcount b (a + 1) false = p := ⟨_, rfl⟩
      rw [ritem_succ b f left a hby hq, List.drop_eq_getElem_cons ha, dec_cons]
      rw [hq] at hc
      obtain ⟨k, hk⟩ : ∃ k, b[a] = k := ⟨_, rfl⟩
      rw [hk]
      have e1 : k = 1 ↔ k.toNat = 1 := by rw [← UInt8.toNat_inj]; rfl
      have e2 : k = 2 ↔ k.toNat = 2 := by rw [← UInt8.toNat_inj]; rfl
      have e3 : k = 3 ↔ k.toNat = 3 := by rw [← UInt8.toNat_inj]; rfl
      by_cases hl : left - 1 < 0
      · simp only [if_pos hl]
      rw [if_neg hl, if_neg hl]
      by_cases k1 : k = 1
      · rw [if_pos k1, if_pos (e1.1 k1)]
        cases hcn : cnt (b.drop (a + 1)) with
        | none => rw [hcn] at hc; exact hc
        | some p =>
          obtain ⟨m, r⟩ := p
          rw [hcn] at hc
          obtain ⟨a', g1, g2, g3⟩ := hc
          obtain ⟨rfl, rfl, rfl⟩ : n = m ∧ a2 = a' ∧ bad2 = false := by simpa using g3
          exact ⟨a2, g1, g2, rfl⟩
      rw [if_neg k1, if_neg (fun e => k1 (e1.2 e))]
      by_cases k2 : k = 2
      · rw [if_pos k2, if_pos (e2.1 k2)]
        unfold siz
        cases hcn : cnt (b.drop (a + 1)) with
        | none =>
          rw [hcn] at hc
          dsimp only at hc ⊢
          rw [if_pos (.inr (.inl hc))]
        | some p =>
          obtain ⟨m, r⟩ := p
          rw [hcn] at hc
          obtain ⟨a', g1, g2, g3⟩ := hc
          obtain ⟨rfl, rfl, rfl⟩ : n = m ∧ a2 = a' ∧ bad2 = false := by simpa using g3
          dsimp only
          by_cases h4 : n > 4096
          · rw [if_pos h4, if_pos (.inl h4)]
          rw [if_neg h4]
          dsimp only
          rw [g2, List.length_drop]
          by_cases h5 : n > b.length - a2
          · rw [if_pos h5, if_pos (.inr (.inr h5))]
          · rw [if_neg h5, if_neg (by simp; omega)]
            exact ⟨a2 + n, by omega, by rw [List.drop_drop], rfl⟩
      rw [if_neg k2, if_neg (fun e => k2 (e2.2 e))]
      by_cases k3 : k = 3
      · rw [if_pos k3, if_pos (e3.1 k3)]
        unfold siz
        cases hcn : cnt (b.drop (a + 1)) with
        | none =>
          rw [hcn] at hc
          dsimp only at hc ⊢
          rw [hc, ite_self, ritems_bad]
        | some p =>
          obtain ⟨m, r⟩ := p
          rw [hcn] at hc
          obtain ⟨a', g1, g2, g3⟩ := hc
          obtain ⟨rfl, rfl, rfl⟩ : n = m ∧ a2 = a' ∧ bad2 = false := by simpa using g3
          dsimp only
          by_cases h4 : n > 4096
          · rw [if_pos h4, if_pos h4, ritems_bad]
          rw [if_neg h4, if_neg h4]
          dsimp only
          rw [g2]
          have h6 := ritems_dec (fun left a h => ritem_dec f left a h) n [] (left - 1) a2 g1
          cases hl : decL f n (left - 1) (b.drop a2) with
          | none => rw [hl] at h6; exact h6
          | some q =>
            obtain ⟨l2, z, r2⟩ := q
            rw [hl] at h6
            obtain ⟨a3, ha3, hr3, he3⟩ := h6
            exact ⟨a3, ha3, hr3, by rw [he3]; rfl⟩
      rw [if_neg k3, if_neg (fun e => k3 (e3.2 e))]
    · have hby := rbyte_no (b := b) (a := a) (by omega)
      obtain ⟨⟨n, a2, bad2⟩, hq⟩ : ∃ p, rcount b a true = p := ⟨_, rfl⟩
      rw [ritem_succ b f left a hby hq, List.drop_of_length_le (by omega), dec_nil]
      by_cases hl : left - 1 < 0
      · simp only [if_pos hl]
      · rw [if_neg hl, if_neg (by decide), if_neg (by decide), if_neg (by decide)]
end Go.AW.Wir
