import Derived.Test.YtagligpagpaceaaWirW11
/- The wire: what is awake. -/
set_option linter.unusedVariables false
set_option linter.unusedSimpArgs false
namespace Go.AW.Wir
open Go Go.AW Go.Proofs
set_option maxRecDepth 10000
set_option pp.maxSteps 60

theorem okc_leaf {k n : Int} {s : List UInt8} (h : s.length ≤ 4096) : okc (.mk k n s []) 1 4096 := by
  rw [okc_mk]
  exact ⟨by decide, by decide, by omega, by rw [nL]; decide, .inl rfl, by rw [bigL]⟩
theorem e300 : encode (.mk 1 300 [] []) = ([1, 2, 2, 88], 0) := by
  refine enc_of (okc_leaf (by simp)) ?_
  rw [vI, if_pos ⟨rfl, rfl, rfl⟩, enV]
  rfl
theorem eab : encode (.mk 2 0 [97, 98] []) = ([2, 1, 2, 97, 98], 0) := by
  refine enc_of (okc_leaf (by simp)) ?_
  rw [vI, if_neg (by simp), if_pos ⟨rfl, rfl, rfl⟩, enV]
  rfl
theorem e4 : encode (.mk 4 0 [] []) = ([], 4) := by
  refine enc_bad (okc_leaf (by simp)) ?_
  rw [vI, if_neg (by simp), if_neg (by simp), if_pos (.inl (by decide)), enV]
theorem d7 : decode [3, 1, 2, 1, 0, 2, 0] = (.mk 3 0 [] [.mk 1 0 [] [], .mk 2 0 [] []], 0) := by
  have h : dec 12 4096 [3, 1, 2, 1, 0, 2, 0] = some (.mk 3 0 [] [.mk 1 0 [] [], .mk 2 0 [] []], 4093, []) := by
    rw [dec_cons]
    have c1 : siz 4096 [1, 2, 1, 0, 2, 0] = some (2, [1, 0, 2, 0]) := by decide
    have c2 : cnt [0, 2, 0] = some (0, [2, 0]) := by decide
    have c3 : siz 4096 [0] = some (0, []) := by decide
    rw [if_neg (by decide), if_neg (by decide), if_neg (by decide), if_pos rfl, c1]
    dsimp only
    rw [decL_succ, dec_cons, if_neg (by decide), if_pos rfl, c2]
    dsimp only
    rw [decL_succ, dec_cons, if_neg (by decide), if_neg (by decide), if_pos rfl, c3]
    dsimp only
    rw [if_neg (by decide)]
    dsimp only
    rw [decL_zero]
    rfl
  unfold decode
  rw [h]
theorem d3 : decode [1, 1, 0] = (noIt, 4) := by
  have h : dec 12 4096 [1, 1, 0] = none := by
    rw [dec_cons, if_neg (by decide), if_pos rfl, show cnt [1, 0] = none from by decide]
  unfold decode
  rw [h]

theorem cmp300 {b : List UInt8} (hb : [1, 2, 2, 88] = b) : (ByteArray.toList ⟨b.toArray⟩ == ByteArray.toList ⟨#[1, 2, 2, 88]⟩) = true := by
  rw [ByteArray.toList_eq, ByteArray.toList_eq, ← hb]; decide
theorem awake_law : FCv Try.prog 7 [] (tb true) := by
  have h1 := encode_law (.mk 1 300 [] []) (by rw [inI, inIs]; simp)
  rw [e300] at h1
  have h0 := num_law 300
  have h2 := decode_law [3, 1, 2, 1, 0, 2, 0] (by simp)
  rw [d7] at h2
  have h3 := decode_law [1, 1, 0] (by simp)
  rw [d3, show (noIt, (4 : Int)).1 = .mk 0 0 [] [] from rfl] at h3
  have h4 := encode_law (.mk 4 0 [] []) (by rw [inI, inIs]; simp)
  rw [e4] at h4
  have h5 := str_law [97, 98]
  have h6 := size_law (.mk 2 0 [97, 98] []) (by rw [inI, inIs]; simp)
  rw [eab] at h6
  obtain ⟨b, hb⟩ : ∃ b, ([1, 2, 2, 88] : List UInt8) = b := ⟨_, rfl⟩
  rw [hb] at h1
  rw [itT_mk] at h0 h1 h2 h3 h4 h5 h6
  dsimp only at h1 h2 h3 h4 h6
  refine FCv_of_awp (fn := Try.f7) (c := bodyC Try.f7) Try.func7 rfl (of_decide_eq_true rfl) [] ?_
  conv => whnf
  refine ⟨_, h0, ?_⟩
  conv => whnf
  refine ⟨_, h1, ?_⟩
  conv => whnf
  refine ⟨_, h2, ?_⟩
  conv => whnf
  refine ⟨_, h3, ?_⟩
  conv => whnf
  have h4w : FCv Try.prog 13 [.agg [i64 4, i64 0, str [], .lit (.slice none 0 0)]] _ := h4.weak ⟨.inr (.inr (.inr ⟨.inl rfl, .inl rfl, .inl rfl, .inr (.inl ⟨rfl, 4, rfl⟩), trivial⟩)), trivial⟩
  refine ⟨_, h4w, ?_⟩
  conv => whnf
  refine ⟨b, ⟨rfl, rfl⟩, ?_⟩
  conv => whnf
  rw [cmp300 hb]
  conv => whnf
  refine ⟨by decide, nthK_intro (itR_get (l := [It.mk 1 0 [] [], It.mk 2 0 [] []]) (j := 1) rfl) ?_⟩
  conv => whnf
  refine ⟨_, h5, ?_⟩
  conv => whnf
  refine ⟨_, h6, ?_⟩
  conv => whnf
  exact .inl rfl
end Go.AW.Wir
