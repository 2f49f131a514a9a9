import Derived.Test.YtmobiphgmdigjaaMaiN4
/- Mails: parts of items, walked. -/
set_option linter.unusedVariables false
set_option linter.unusedSimpArgs false
namespace Go.AW.Ml
open Go Go.AW Go.AW.Wir Go.AW.Cm Go.Proofs
set_option maxRecDepth 10000
set_option pp.maxSteps 60

theorem g_lt {i : It} {k : Nat} (h : k < i.l.length) : g i k = i.l[k] := by unfold g; rw [List.getD_eq_getElem?_getD, List.getElem?_eq_getElem h]; rfl
theorem g_ge {i : It} {k : Nat} (h : i.l.length ≤ k) : g i k = noIt := by unfold g; rw [List.getD_eq_getElem?_getD, List.getElem?_eq_none h]; rfl
theorem at_law (i : It) (k : Nat) (hk : k ≤ 100) : FCv Try.prog 40 [itT i, i64 (k : Nat)] (itT (g i k)) := by
  rw [itT_row i]
  by_cases h : k < i.l.length
  · obtain ⟨R, hR⟩ : ∃ R, itC (g i k) = R := ⟨_, rfl⟩
    have hR2 : itT (g i k) = .agg R := by rw [← hR]; rfl
    have hget := itR_get (List.getElem?_eq_getElem h)
    rw [← g_lt h, hR] at hget
    have h0 : decide (((k : Nat) : Int) < (((itR i.l).length : Nat) : Int)) = true := decide_eq_true (by rw [itR_len]; omega)
    rw [hR2]
    have hu : R = [i64 (g i k).k, i64 (g i k).n, Wir.str (g i k).s, .sl none 4 (itR (g i k).l)] := by rw [← hR]; exact itC_eq _
    subst hu
    refine FCv_of_awp (fn := Try.f40) (c := bodyC Try.f40) Try.func40 rfl (of_decide_eq_true rfl) [] ?_
    conv => whnf
    rw [h0]
    conv => whnf
    refine ⟨by omega, nthK_intro hget ?_⟩
    conv => whnf
    exact .inl rfl
  · have h0 : decide (((k : Nat) : Int) < (((itR i.l).length : Nat) : Int)) = false := decide_eq_false (by rw [itR_len]; omega)
    rw [g_ge (by omega)]
    refine FCv_of_awp (fn := Try.f40) (c := bodyC Try.f40) Try.func40 rfl (of_decide_eq_true rfl) [] ?_
    conv => whnf
    rw [h0]
    conv => whnf
    exact .inr (.inr (.inr ⟨.inl rfl, .inl rfl, .inl rfl, .inr (.inl ⟨rfl, 4, rfl⟩), trivial⟩))
abbrev kR (ks : List Int) : List (List T) := ks.map fun k => [i64 k]
theorem shaped_law (i : It) (ks : List Int) (hk : ks.length ≤ 100) (hi : i.l.length ≤ 9223372036854775806) : FCv Try.prog 38 [itT i, .sl none 1 (kR ks)] (tb (kindsB i ks)) := by
  have hB : kindsB i ks = (decide (i.k = 3) && decide (i.l.map It.k = ks)) := rfl
  obtain ⟨R, hR⟩ : ∃ R, kindsB i ks = R := ⟨_, rfl⟩
  rw [hR] at hB ⊢
  rw [itT_row i]
  obtain ⟨k, n, s, l⟩ := i
  dsimp only [It.k, It.n, It.s, It.l] at hB hi ⊢
  change R = (decide (k = 3) && decide (l.map It.k = ks)) at hB
  change l.length ≤ _ at hi
  change FCv _ _ [.agg [i64 k, i64 n, ts s, .sl none 4 (itR l)], _] _
  have hl1 := itR_len l
  have hl2 : (kR ks).length = ks.length := List.length_map _
  have hg1 : ∀ (j : Nat) (h : j < l.length), (itR l)[j]? = some [i64 (l[j]).k, i64 (l[j]).n, ts (l[j]).s, .sl none 4 (itR (l[j]).l)] := fun j h => by rw [itR_get (List.getElem?_eq_getElem h), itC_eq]; rfl
  have hg2 : ∀ (j : Nat) (h : j < ks.length), (kR ks)[j]? = some [i64 ks[j]] := fun j h => by rw [List.getElem?_map, List.getElem?_eq_getElem h]; rfl
  obtain ⟨KR, hKR⟩ : ∃ K, kR ks = K := ⟨_, rfl⟩
  rw [hKR] at hl2 hg2 ⊢
  clear hKR
  refine FCv_of_awp (fn := Try.f38) (c := bodyC Try.f38) Try.func38 rfl (of_decide_eq_true rfl) [] ?_
  conv => whnf
  by_cases h3 : k = 3
  rotate_left
  · rw [qn h3]
    conv => whnf
    exact .inl (congrArg tb (by rw [hB, decide_eq_false h3]; rfl))
  rw [qq h3]
  conv => whnf
  rw [hl1, hl2]
  by_cases hlen : l.length = ks.length
  rotate_left
  · rw [qn (show ¬ ((l.length : Nat) : Int) = ks.length by omega)]
    conv => whnf
    exact .inl (congrArg tb (by rw [hB, decide_eq_false (p := List.map It.k l = ks) (by intro e; apply hlen; rw [← e, List.length_map]), Bool.and_false]))
  rw [qq (show ((l.length : Nat) : Int) = ks.length by omega)]
  conv => whnf
  rw [hl2]
  refine loop_intro (fun y : { j : Nat // j ≤ ks.length ∧ (l.take j).map It.k = ks.take j } =>
    ⟨[(1, .sl none 1 KR), (2, .ptr 0 0 0), (18, i64 (ks.length : Nat)), (19, i64 (y.1 : Nat))], [(0, .own 4 [[i64 k, i64 n, ts s, .sl none 4 (itR l)]])], 34, 1, []⟩) (fun y => ks.length - y.1) ⟨0, Nat.zero_le _, rfl⟩ ?_ ?_
  · exact Wk.intro [] rfl (fun p hp => by cases hp) ⟨.same rfl trivial, .same rfl (by exact rfl), .same rfl trivial, .same rfl trivial, trivial⟩ ⟨⟨rfl, .inl ⟨rfl, it_row _ _ _ _ _⟩⟩, trivial⟩
  rintro ⟨j, q1, q2⟩
  dsimp only at q1 q2 ⊢
  conv => whnf
  refine br_intro (fun h1 => ?_) (fun h1 => ?_) <;> (rw [h1]; conv => whnf)
  · have hj : j < ks.length := by have := of_decide_eq_true h1; omega
    refine ⟨by omega, nthK_intro (hg1 j (by omega)) ?_⟩
    conv => whnf
    refine ⟨by omega, nthK_intro (hg2 j hj) ?_⟩
    conv => whnf
    have t1 : l.take (j + 1) = l.take j ++ [l[j]] := by rw [List.take_add_one, List.getElem?_eq_getElem (by omega)]; rfl
    have t2 : ks.take (j + 1) = ks.take j ++ [ks[j]] := by rw [List.take_add_one, List.getElem?_eq_getElem hj]; rfl
    by_cases hk : (l[j]).k = ks[j]
    · rw [qq hk]
      conv => whnf
      refine Nx.intro ⟨j + 1, hj, by rw [t1, t2, List.map_append, q2, ← hk]; rfl⟩ (by dsimp only; omega) ?_
      exact Wk.intro [] rfl (fun p hp => by cases hp) ⟨.same rfl trivial, .same rfl (by exact rfl), .same rfl trivial, .same (congrArg i64 (by rw [wrap_i64 _ (by omega) (by omega)]; rfl)) trivial, trivial⟩ ⟨⟨rfl, .inl ⟨rfl, it_row _ _ _ _ _⟩⟩, trivial⟩
    · rw [qn hk]
      conv => whnf
      refine .inl (congrArg tb ?_)
      rw [hB, decide_eq_false (p := List.map It.k l = ks), Bool.and_false]
      intro e
      apply hk
      have : (l.map It.k)[j]? = ks[j]? := by rw [e]
      rw [List.getElem?_map, List.getElem?_eq_getElem (by omega), List.getElem?_eq_getElem hj] at this
      exact Option.some.inj this
  · obtain rfl : j = ks.length := by have := of_decide_eq_false h1; omega
    rw [List.take_length, ← hlen, List.take_length] at q2
    exact .inl (congrArg tb (by rw [hB, decide_eq_true h3, decide_eq_true q2]; rfl))
end Go.AW.Ml

/- Mails: what was read is not too large; plain, but for the reader. -/
set_option linter.unusedVariables false
set_option linter.unusedSimpArgs false
namespace Go.AW.Ml
open Go Go.AW Go.AW.Wir Go.AW.Cm Go.Proofs
set_option maxRecDepth 10000

/-- An item that was read, or none. -/
def Gd (i : It) : Prop := inI i ∧ bigI i = false ∧ nI i ≤ 4096 ∧ (formB i = true ∨ i = noIt)
theorem gd_no : Gd noIt := ⟨by unfold noIt; rw [inI, inIs]; exact ⟨⟨by decide, by decide⟩, trivial⟩, by unfold noIt; rw [bigI, bigL]; rfl, by unfold noIt; rw [nI, nL]; decide, .inr rfl⟩
theorem gd_dec {s : List UInt8} {i : It} (h : Wir.decode s = (i, 0)) : Gd i := by
  have h1 := decode_enc (s := s) (by rw [h])
  have h4 := decode_in s
  have h5 := decode_form (s := s) (by rw [h])
  rw [h] at h1 h4 h5
  have h2 : (encode i).2 = 0 := by rw [h1]
  have h3 := (enc_iff.1 h2).1
  unfold okc at h3
  exact ⟨h4, h3.2.2, by omega, .inl h5⟩
theorem gd_form {i : It} (h : Gd i) (hn : i.k ≠ 0) : formB i = true := by
  rcases h.2.2.2 with h | h
  · exact h
  · rw [h] at hn; exact absurd rfl hn
theorem gd_k3 {i : It} (h : Gd i) (hl : i.l ≠ []) : i.k = 3 ∧ formB i = true := by
  rcases h.2.2.2 with h5 | h5
  · refine ⟨?_, h5⟩
    obtain ⟨k, n, s, l⟩ := i
    change l ≠ [] at hl
    show k = 3
    by_cases hk : k = 3
    · exact hk
    exfalso
    apply hl
    unfold formB at h5
    rw [vI] at h5
    split at h5
    · rename_i hc; exact hc.2.2
    · split at h5
      · rename_i hc; exact hc.2.2
      · rw [if_pos (.inl hk), enV] at h5; cases h5
  · rw [h5] at hl; exact absurd rfl hl
theorem gd_s {i : It} (h : Gd i) : i.s.length ≤ 4096 := by
  rcases h.2.2.2 with hf | hf
  · have hb := h.2.1
    obtain ⟨k, n, s, l⟩ := i
    show s.length ≤ 4096
    unfold formB at hf
    rw [vI] at hf
    split at hf
    · rename_i h; rw [h.2.1]; exact Nat.zero_le _
    · split at hf
      · rename_i h
        rw [bigI, h.1] at hb
        simp only [Bool.or_eq_false_iff, Bool.and_eq_false_iff] at hb
        rcases hb.1 with h | h
        · simp at h
        · have := of_decide_eq_false h; omega
      · split at hf
        · rw [enV] at hf; cases hf
        · rename_i h
          simp only [not_or, Classical.not_not] at h
          rw [h.2.2]; exact Nat.zero_le _
  · rw [hf]; exact Nat.zero_le _
theorem gd_n {i : It} (h : Gd i) : in64 i.n := by
  obtain ⟨k, n, s, l⟩ := i
  have := h.1
  rw [inI] at this
  exact this.1.1
theorem nL_len : ∀ l : List It, l.length ≤ nL l
  | [] => by rw [nL]; exact Nat.zero_le _
  | i :: r => by
    rw [nL, List.length_cons]
    have := nL_len r
    have : 1 ≤ nI i := by cases i; rw [nI]; omega
    omega
theorem gd_l {i : It} (h : Gd i) : i.l.length ≤ 4096 := by
  obtain ⟨k, n, s, l⟩ := i
  have := h.2.2.1
  rw [nI] at this
  have := nL_len l
  show l.length ≤ 4096
  omega
theorem nL_mem {j : It} : ∀ {l : List It}, j ∈ l → nI j ≤ nL l
  | [], h => by cases h
  | a :: r, h => by
    rw [nL]
    rcases List.mem_cons.1 h with rfl | h
    · omega
    · have := nL_mem h; omega
theorem bigL_mem {j : It} : ∀ {l : List It}, bigL l = false → j ∈ l → bigI j = false
  | [], _, h => by cases h
  | a :: r, hb, h => by
    rw [bigL, Bool.or_eq_false_iff] at hb
    rcases List.mem_cons.1 h with rfl | h
    · exact hb.1
    · exact bigL_mem hb.2 h
theorem gd_mem {i j : It} (h : Gd i) (hj : j ∈ i.l) : Gd j := by
  obtain ⟨hk, hf⟩ := gd_k3 h (by intro e; rw [e] at hj; cases hj)
  obtain ⟨k, n, s, l⟩ := i
  change j ∈ l at hj
  change k = 3 at hk
  obtain ⟨h1, h2, h3, _⟩ := h
  rw [inI] at h1
  rw [bigI, Bool.or_eq_false_iff] at h2
  rw [nI] at h3
  have := nL_mem hj
  exact ⟨inIs_mem h1.2 hj, bigL_mem h2.2 hj, by omega, .inl ((fm_row hk hf).2.2 j hj)⟩
theorem gd_g {i : It} (h : Gd i) (k : Nat) : Gd (g i k) := by
  by_cases hk : k < i.l.length
  · rw [g_lt hk]; exact gd_mem h (List.getElem_mem hk)
  · rw [g_ge (by omega)]; exact gd_no
theorem flat_len {l : List (List UInt8)} (h : ∀ x ∈ l, x.length ≤ 4096) : l.flatten.length ≤ 4096 * l.length := by
  induction l with
  | nil => simp
  | cons a r ih =>
    rw [List.flatten_cons, List.length_append, List.length_cons]
    have := ih fun x hx => h x (by simp [hx])
    have := h a (by simp)
    omega
theorem gd_flat {i : It} (h : Gd i) : (i.l.map It.s).flatten.length ≤ 16777216 := by
  have h1 := flat_len (l := i.l.map It.s) (by
    intro x hx
    obtain ⟨y, hy, rfl⟩ := List.mem_map.1 hx
    exact gd_s (gd_mem h hy))
  have h2 := gd_l h
  rw [List.length_map] at h1
  omega
theorem refE_in {i : It} (h : Gd i) : inE (refE i) := ⟨gd_n (gd_g h 0), by have := gd_s (gd_g h 1); show (g i 1).s.length ≤ _; omega⟩
theorem refJ_in {i : It} (h : Gd i) : inJ (refJ i) := by
  have h0 := gd_s (gd_g h 0)
  have h1 := gd_s (gd_g h 1)
  have h3 := gd_s (gd_g h 3)
  have h2 := gd_g h 2
  exact ⟨by show (g i 0).s.length ≤ _; omega, by show (g i 1).s.length ≤ _; omega, ⟨gd_n (gd_g h2 0), gd_n (gd_g h2 1), gd_n (gd_g h2 2)⟩, by show (g i 3).s.length ≤ _; omega, gd_n (gd_g h 4)⟩
theorem refM_in {i : It} (h : Gd i) : inM (refM i) := by
  have n := fun k => gd_n (gd_g h k)
  have h6 := gd_l (gd_g h 6)
  have h9 := gd_flat (gd_g h 9)
  have h10 := gd_l (gd_g h 10)
  refine ⟨n 0, n 1, ⟨n 2, n 3, n 4, n 5⟩, ⟨by show ((g i 6).l.map refE).length ≤ _; rw [List.length_map]; omega, ?_⟩, ⟨n 7, n 8, by show ((g i 9).l.map It.s).flatten.length ≤ _; omega⟩, by show ((g i 10).l.map refJ).length ≤ _; rw [List.length_map]; omega, ?_⟩
  · intro x hx
    obtain ⟨y, hy, rfl⟩ := List.mem_map.1 hx
    exact refE_in (gd_mem (gd_g h 6) hy)
  · intro x hx
    obtain ⟨y, hy, rfl⟩ := List.mem_map.1 hx
    exact refJ_in (gd_mem (gd_g h 10) hy)
theorem okP_step {x : It} {r : List It} (hx : x.s.length ≤ 4096) : okP (x :: r) = true ↔ (x.k = 2 ∧ x.s ≠ [] ∧ (r ≠ [] → x.s.length = 4096)) ∧ okP r = true := by
  unfold okP
  cases r with
  | nil =>
    simp only [List.all_cons, List.all_nil, List.map_cons, List.map_nil, goodCh, Bool.and_eq_true, decide_eq_true_eq, Bool.not_eq_true', Bool.and_true, and_true, true_and]
    constructor
    · rintro ⟨h1, h2, h3⟩; exact ⟨h1, (by intro e; rw [e] at h2; cases h2), by simp⟩
    · rintro ⟨h1, h2, _⟩; exact ⟨h1, by simpa using h2, hx⟩
  | cons y r =>
    simp only [List.all_cons, List.map_cons, goodCh, Bool.and_eq_true, decide_eq_true_eq]
    constructor
    · rintro ⟨⟨h1, h2⟩, h3, h4⟩
      exact ⟨⟨h1, (by intro e; rw [e] at h3; cases h3), fun _ => h3⟩, h2, h4⟩
    · rintro ⟨⟨h1, _, h3⟩, h2, h4⟩
      exact ⟨⟨h1, h2⟩, h3 (by simp), h4⟩
theorem decode_e (s : List UInt8) : (Wir.decode s).2 = 0 ∨ Wir.decode s = (noIt, 4) := by
  unfold Wir.decode
  split
  · exact .inl rfl
  · exact .inr rfl
end Go.AW.Ml
