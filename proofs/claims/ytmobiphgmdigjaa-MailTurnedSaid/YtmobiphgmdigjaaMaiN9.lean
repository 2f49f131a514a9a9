import Derived.Test.YtmobiphgmdigjaaMaiN8
/- Mails: the reference's decoding, walked. -/
set_option linter.unusedVariables false
set_option linter.unusedSimpArgs false
namespace Go.AW.Ml
open Go Go.AW Go.AW.Wir Go.AW.Cm Go.Proofs
set_option maxRecDepth 40000
set_option pp.maxSteps 60

/-- The mail that bytes are, as the reference tells it. -/
theorem decM_ref {s : List UInt8} {i : It} (h : Wir.decode s = (i, 0)) : decM s = if wi (g i 0).n 1 9 = true ∧ encM (refM i) = (s, 0) then (refM i, 0) else (zeroM, 4) := by
  by_cases hE : encM (refM i) = (s, 0)
  · have h2 := (mayM_iff.1 (encM_may hE).1).1
    rw [if_pos ⟨h2, hE⟩]
    exact encM_dec (refM_in (gd_dec h)) hE
  · rw [if_neg (fun e => hE e.2)]
    rcases decM_or s with h1 | ⟨m, h1⟩
    · exact h1
    · exfalso
      have h2 := (decM_item h1).1
      rw [h] at h2
      have h3 : i = itemM m := congrArg Prod.fst h2
      apply hE
      rw [h3, refM_item]
      exact decM_enc h1
theorem decM_e {s : List UInt8} (h : Wir.decode s = (noIt, 4)) : decM s = (zeroM, 4) := by
  unfold decM
  rw [if_neg]
  rw [h]
  intro e
  exact absurd e.1 (by decide)
theorem at_iR (i : It) (k : Nat) (hk : k ≤ 100) : FCv Try.prog 40 [.agg (iR i), i64 (k : Nat)] (.agg (iR (g i k))) := by
  have h := at_law i k hk
  rw [itT_row, itT_row] at h
  exact h
theorem newR : ∀ p ∈ [(24, 2), (25, 7)], 24 ≤ p.1 ∧ p.1 < 26 ∧ ∀ q ∈ [(24, 2), (25, 7)], q.1 = p.1 → q = p := by decide
theorem i4_lt (x : Nat) (k n : Int) (s : List UInt8) (R : List (List T)) : blkLt x (.own 4 [[i64 k, i64 n, ts s, .sl none 4 R]]) := by
  intro row hr c hc
  obtain rfl := List.mem_singleton.1 hr
  simp only [List.mem_cons, List.mem_nil_iff, or_false] at hc
  rcases hc with rfl | rfl | rfl | rfl <;> trivial
theorem mrdec_law (s : List UInt8) (hs : s.length ≤ 140737488351232) : FCv Try.prog 15 [ts s] (.tup [.agg (mC (decM s).1), i64 (decM s).2]) := by
  have d := rdecode_law s hs
  have he := decode_e s
  have hx1 := @decM_ref s
  have hx2 := @decM_e s
  have hx3 := @gd_dec s
  obtain ⟨R, hR⟩ : ∃ R, decM s = R := ⟨_, rfl⟩
  rw [hR] at hx1 hx2 ⊢
  obtain ⟨⟨i, e⟩, hi⟩ : ∃ p, Wir.decode s = p := ⟨_, rfl⟩
  rw [hi] at d he hx2
  dsimp only at d he
  rw [itT_row] at d
  rcases he with rfl | he
  rotate_left
  · rw [hx2 he]
    cases he
    refine FCv_of_awp (fn := Try.f15) (c := bodyC Try.f15) Try.func15 rfl (of_decide_eq_true rfl) [] ?_
    conv => whnf
    refine ⟨_, d, ?_⟩
    conv => whnf
    refine ⟨?_, .inl rfl, trivial⟩
    conv => whnf
    exact zend
  have hD := hx1 hi
  have hgd := hx3 hi
  have hin := refM_in hgd
  have hrf : refM i = ⟨(g i 0).n, (g i 1).n, (g i 2).n, (g i 3).n, (g i 4).n, (g i 5).n, (g i 6).l.map refE, (g i 7).n, (g i 8).n, ((g i 9).l.map It.s).flatten, (g i 10).l.map refJ⟩ := rfl
  have A0 : FCv Try.prog 40 [.agg (iR i), i64 0] (.agg (iR (g i 0))) := at_iR i 0 (by decide)
  have A1 : FCv Try.prog 40 [.agg (iR i), i64 1] (.agg (iR (g i 1))) := at_iR i 1 (by decide)
  have A2 : FCv Try.prog 40 [.agg (iR i), i64 2] (.agg (iR (g i 2))) := at_iR i 2 (by decide)
  have A3 : FCv Try.prog 40 [.agg (iR i), i64 3] (.agg (iR (g i 3))) := at_iR i 3 (by decide)
  have A4 : FCv Try.prog 40 [.agg (iR i), i64 4] (.agg (iR (g i 4))) := at_iR i 4 (by decide)
  have A5 : FCv Try.prog 40 [.agg (iR i), i64 5] (.agg (iR (g i 5))) := at_iR i 5 (by decide)
  have A6 : FCv Try.prog 40 [.agg (iR i), i64 6] (.agg (iR (g i 6))) := at_iR i 6 (by decide)
  have A7 : FCv Try.prog 40 [.agg (iR i), i64 7] (.agg (iR (g i 7))) := at_iR i 7 (by decide)
  have A8 : FCv Try.prog 40 [.agg (iR i), i64 8] (.agg (iR (g i 8))) := at_iR i 8 (by decide)
  have A9 : FCv Try.prog 40 [.agg (iR i), i64 9] (.agg (iR (g i 9))) := at_iR i 9 (by decide)
  have A10 : FCv Try.prog 40 [.agg (iR i), i64 10] (.agg (iR (g i 10))) := at_iR i 10 (by decide)
  have G6 := gd_g hgd 6
  have G9 := gd_g hgd 9
  have G10 := gd_g hgd 10
  obtain ⟨p0, hp0⟩ : ∃ p, g i 0 = p := ⟨_, rfl⟩
  obtain ⟨p1, hp1⟩ : ∃ p, g i 1 = p := ⟨_, rfl⟩
  obtain ⟨p2, hp2⟩ : ∃ p, g i 2 = p := ⟨_, rfl⟩
  obtain ⟨p3, hp3⟩ : ∃ p, g i 3 = p := ⟨_, rfl⟩
  obtain ⟨p4, hp4⟩ : ∃ p, g i 4 = p := ⟨_, rfl⟩
  obtain ⟨p5, hp5⟩ : ∃ p, g i 5 = p := ⟨_, rfl⟩
  obtain ⟨p6, hp6⟩ : ∃ p, g i 6 = p := ⟨_, rfl⟩
  obtain ⟨p7, hp7⟩ : ∃ p, g i 7 = p := ⟨_, rfl⟩
  obtain ⟨p8, hp8⟩ : ∃ p, g i 8 = p := ⟨_, rfl⟩
  obtain ⟨p9, hp9⟩ : ∃ p, g i 9 = p := ⟨_, rfl⟩
  obtain ⟨p10, hp10⟩ : ∃ p, g i 10 = p := ⟨_, rfl⟩
  rw [hp0, hp1, hp2, hp3, hp4, hp5, hp6, hp7, hp8, hp9, hp10] at hrf
  rw [hp0] at A0
  rw [hp1] at A1
  rw [hp2] at A2
  rw [hp3] at A3
  rw [hp4] at A4
  rw [hp5] at A5
  rw [hp6] at A6
  rw [hp7] at A7
  rw [hp8] at A8
  rw [hp9] at A9
  rw [hp10] at A10
  rw [hp0, hrf] at hD
  rw [hrf] at hin
  rw [hp6] at G6
  rw [hp9] at G9
  rw [hp10] at G10
  have hec := mrenc_law _ hin
  unfold mC at hec
  dsimp only at hec
  rw [List.map_map, List.map_map] at hec
  have w1 := rwithin_law p0.n 1 9
  have hlq := gd_l G6
  have hlx := gd_l G9
  have hly := gd_l G10
  obtain ⟨RI, hRI⟩ : ∃ RI, itR i.l = RI := ⟨_, rfl⟩
  change FCv _ _ [.agg [i64 i.k, i64 i.n, ts i.s, .sl none 4 (itR i.l)], _] _ at A0
  change FCv _ _ [.agg [i64 i.k, i64 i.n, ts i.s, .sl none 4 (itR i.l)], _] _ at A1
  change FCv _ _ [.agg [i64 i.k, i64 i.n, ts i.s, .sl none 4 (itR i.l)], _] _ at A2
  change FCv _ _ [.agg [i64 i.k, i64 i.n, ts i.s, .sl none 4 (itR i.l)], _] _ at A3
  change FCv _ _ [.agg [i64 i.k, i64 i.n, ts i.s, .sl none 4 (itR i.l)], _] _ at A4
  change FCv _ _ [.agg [i64 i.k, i64 i.n, ts i.s, .sl none 4 (itR i.l)], _] _ at A5
  change FCv _ _ [.agg [i64 i.k, i64 i.n, ts i.s, .sl none 4 (itR i.l)], _] _ at A6
  change FCv _ _ [.agg [i64 i.k, i64 i.n, ts i.s, .sl none 4 (itR i.l)], _] _ at A7
  change FCv _ _ [.agg [i64 i.k, i64 i.n, ts i.s, .sl none 4 (itR i.l)], _] _ at A8
  change FCv _ _ [.agg [i64 i.k, i64 i.n, ts i.s, .sl none 4 (itR i.l)], _] _ at A9
  change FCv _ _ [.agg [i64 i.k, i64 i.n, ts i.s, .sl none 4 (itR i.l)], _] _ at A10
  rw [hRI] at d A0 A1 A2 A3 A4 A5 A6 A7 A8 A9 A10
  refine FCv_of_awp (fn := Try.f15) (c := bodyC Try.f15) Try.func15 rfl (of_decide_eq_true rfl) [] ?_
  conv => whnf
  refine ⟨_, d, ?_⟩
  conv => whnf
  refine ⟨_, A0, ?_⟩
  conv => whnf
  refine ⟨_, w1, ?_⟩
  conv => whnf
  cases hw : wi p0.n 1 9 with
  | false =>
    conv => whnf
    rw [hD, if_neg (by rw [hw]; simp)]
    refine ⟨?_, .inl rfl, trivial⟩
    conv => whnf
    exact zend
  | true =>
  conv => whnf
  refine ⟨_, A0, ?_⟩
  conv => whnf
  refine ⟨_, A1, ?_⟩
  conv => whnf
  refine ⟨_, A2, ?_⟩
  conv => whnf
  refine ⟨_, A3, ?_⟩
  conv => whnf
  refine ⟨_, A4, ?_⟩
  conv => whnf
  refine ⟨_, A5, ?_⟩
  conv => whnf
  refine ⟨_, A7, ?_⟩
  conv => whnf
  refine ⟨_, A8, ?_⟩
  conv => whnf
  refine ⟨_, A6, ?_⟩
  conv => whnf
  have q1 := itR_len p6.l
  have q2 : ∀ (j : Nat) (h : j < p6.l.length), (itR p6.l)[j]? = some (iR p6.l[j]) := fun j h => (itR_get (List.getElem?_eq_getElem h)).trans (congrArg some (itC_eq _))
  obtain ⟨RQ, hRQ⟩ : ∃ RQ, itR p6.l = RQ := ⟨_, rfl⟩
  rw [hRQ] at q1 q2 ⊢
  refine loop_intro (fun y : { j : Nat // j ≤ p6.l.length } =>
    ⟨[(0, ts s), (2, .ptr 0 0 0), (4, .ptr 2 0 0), (6, .ptr 22 0 0), (7, .sl none 4 RQ), (8, i64 (y.1 : Nat))], [(0, .own 11 [zM]), (2, .own 4 [[i64 i.k, i64 i.n, ts i.s, .sl none 4 RI]]), (22, .own 11 [[i64 p0.n, i64 p1.n, i64 p2.n, i64 p3.n, i64 p4.n, i64 p5.n, .sl (some 24) 2 ((p6.l.take y.1).map fun x => eC (refE x)), i64 p7.n, i64 p8.n, ts [], .sl (some 25) 7 []]]), (24, .tok 2 y.1), (25, .tok 7 0)], 186, 26, []⟩) (fun y => p6.l.length - y.1) ⟨0, Nat.zero_le _⟩ ?_ ?_
  · refine Wk.intro [(24, 2), (25, 7)] rfl newR ⟨.same rfl trivial, .same rfl (by exact rfl), .same rfl (by exact rfl), .same rfl (by exact rfl), .same rfl trivial, .same rfl trivial, trivial⟩
      ⟨⟨rfl, .inl ⟨rfl, zM_lt _⟩⟩, ⟨rfl, .inl ⟨rfl, i4_lt _ _ _ _ _⟩⟩, ⟨rfl, .inr (.inr ⟨11, _, _, rfl, rfl, mail_own (by simp) (by simp)⟩)⟩, ⟨rfl, .inr (.inl ⟨2, by simp, rfl⟩)⟩, ⟨rfl, .inr (.inl ⟨7, by simp, rfl⟩)⟩, trivial⟩
  rintro ⟨j, hj1⟩
  dsimp only at hj1 ⊢
  conv => whnf
  rw [q1]
  refine br_intro (fun h1 => ?_) (fun h1 => ?_) <;> (rw [h1]; conv => whnf)
  · have hlt : j < p6.l.length := by have := of_decide_eq_true h1; omega
    have qj := q2 j hlt
    have htk : (p6.l.take (j + 1)).map (fun x => eC (refE x)) = (p6.l.take j).map (fun x => eC (refE x)) ++ [eC (refE p6.l[j])] := by rw [List.take_add_one, List.getElem?_eq_getElem hlt, List.map_append]; rfl
    obtain ⟨X, hX⟩ : ∃ X, p6.l[j] = X := ⟨_, rfl⟩
    rw [hX] at qj htk
    have B0 : FCv Try.prog 40 [.agg (iR X), i64 0] (.agg (iR (g X 0))) := at_iR X 0 (by decide)
    have B1 : FCv Try.prog 40 [.agg (iR X), i64 1] (.agg (iR (g X 1))) := at_iR X 1 (by decide)
    have hrE : refE X = ⟨(g X 0).n, (g X 1).s⟩ := rfl
    obtain ⟨e0, he0⟩ : ∃ e, g X 0 = e := ⟨_, rfl⟩
    obtain ⟨e1, he1⟩ : ∃ e, g X 1 = e := ⟨_, rfl⟩
    rw [he0] at B0 hrE
    rw [he1] at B1 hrE
    refine ⟨by omega, nthK_intro qj ?_⟩
    conv => whnf
    refine ⟨_, B0, ?_⟩
    conv => whnf
    refine ⟨by omega, nthK_intro qj ?_⟩
    conv => whnf
    refine ⟨_, B1, ?_⟩
    conv => whnf
    have htl : ((p6.l.take j).map fun x => eC (refE x)).length = j := by rw [List.length_map, List.length_take]; omega
    refine ⟨htl, by rw [htl]; show (j + 1) * 24 ≤ _; omega, by rw [htl]; show j + 1 ≤ _; omega, ?_⟩
    conv => whnf
    refine Nx.intro ⟨j + 1, hlt⟩ (by dsimp only; omega) ?_
    dsimp only
    rw [htk, hrE]
    refine Wk.intro [] rfl (fun p hp => by cases hp) ⟨.same rfl trivial, .same rfl (by exact rfl), .same rfl (by exact rfl), .same rfl (by exact rfl), .same rfl trivial, .same (congrArg i64 (by rw [wrap_i64 _ (by omega) (by omega)]; rfl)) trivial, trivial⟩
      ⟨⟨rfl, .inl ⟨rfl, zM_lt _⟩⟩, ⟨rfl, .inl ⟨rfl, i4_lt _ _ _ _ _⟩⟩, ⟨rfl, .inl ⟨rfl, mk_lt _ _ _ rfl rfl _ _ _ _ _ _ _ _ _ _ _⟩⟩, ⟨rfl, .inl ⟨congrArg (fun z => some (Blk.tok 2 z)) (congrArg (· + 1) htl), trivial⟩⟩, ⟨rfl, .inl ⟨rfl, trivial⟩⟩, trivial⟩
  obtain rfl : j = p6.l.length := by have := of_decide_eq_false h1; omega
  rw [List.take_length]
  refine ⟨_, A9, ?_⟩
  conv => whnf
  have xl := itR_len p9.l
  have xg : ∀ (j : Nat) (h : j < p9.l.length), (itR p9.l)[j]? = some (iR p9.l[j]) := fun j h => (itR_get (List.getElem?_eq_getElem h)).trans (congrArg some (itC_eq _))
  obtain ⟨RX, hRX⟩ : ∃ RX, itR p9.l = RX := ⟨_, rfl⟩
  rw [hRX] at xl xg ⊢
  have nb : (Try.prog.types[5]).bytes = 1 := rfl
  refine loop_intro (fun z : { j : Nat // j ≤ p9.l.length } =>
    ⟨[(0, ts s), (2, .ptr 0 0 0), (4, .ptr 2 0 0), (6, .ptr 22 0 0), (9, .sl none 4 RX), (10, .sl (some 26) 1 (bytesR ((p9.l.take z.1).map It.s).flatten)), (11, i64 (z.1 : Nat))], [(0, .own 11 [zM]), (2, .own 4 [[i64 i.k, i64 i.n, ts i.s, .sl none 4 RI]]), (22, .own 11 [[i64 p0.n, i64 p1.n, i64 p2.n, i64 p3.n, i64 p4.n, i64 p5.n, .sl none 2 (p6.l.map fun x => eC (refE x)), i64 p7.n, i64 p8.n, ts [], .sl (some 25) 7 []]]), (25, .tok 7 0), (26, .tok 1 ((p9.l.take z.1).map It.s).flatten.length)], 186, 27, []⟩) (fun z => p9.l.length - z.1) ⟨0, Nat.zero_le _⟩ ?_ ?_
  · refine Wk.intro [] rfl (fun p hp => by cases hp) ⟨.same rfl trivial, .same rfl (by exact rfl), .same rfl (by exact rfl), .same rfl (by exact rfl), .same rfl trivial, .same rfl (by exact rfl), .same rfl trivial, trivial⟩
      ⟨⟨rfl, .inl ⟨rfl, zM_lt _⟩⟩, ⟨rfl, .inl ⟨rfl, i4_lt _ _ _ _ _⟩⟩, ⟨rfl, .inr (.inr ⟨11, _, _, rfl, rfl, unown1 rfl⟩)⟩, ⟨rfl, .inl ⟨rfl, trivial⟩⟩, ⟨rfl, .inl ⟨rfl, trivial⟩⟩, trivial⟩
  rintro ⟨j, hj1⟩
  dsimp only at hj1 ⊢
  conv => whnf
  rw [xl]
  refine br_intro (fun h1 => ?_) (fun h1 => ?_) <;> (rw [h1]; conv => whnf)
  · have hlt : j < p9.l.length := by have := of_decide_eq_true h1; omega
    have qj := xg j hlt
    have htk : p9.l.take (j + 1) = p9.l.take j ++ [p9.l[j]] := by rw [List.take_add_one, List.getElem?_eq_getElem hlt]; rfl
    have hmem : p9.l[j] ∈ p9.l := List.getElem_mem hlt
    obtain ⟨X, hX⟩ : ∃ X, p9.l[j] = X := ⟨_, rfl⟩
    rw [hX] at qj htk hmem
    have hfl : ((p9.l.take (j + 1)).map It.s).flatten = ((p9.l.take j).map It.s).flatten ++ X.s := by rw [htk, List.map_append, List.flatten_append]; simp
    have hAl := flat_len (l := (p9.l.take j).map It.s) (by
      intro z hz
      obtain ⟨y', hy', rfl⟩ := List.mem_map.1 hz
      exact gd_s (gd_mem G9 (List.mem_of_mem_take hy')))
    rw [List.length_map, List.length_take] at hAl
    have hXs := gd_s (gd_mem G9 hmem)
    refine ⟨by omega, nthK_intro qj ?_⟩
    conv => whnf
    obtain ⟨A, hA⟩ : ∃ A, ((p9.l.take j).map It.s).flatten = A := ⟨_, rfl⟩
    rw [hA] at hfl hAl ⊢
    have hd : ({ data := X.s.toArray } : ByteArray).data.toList = X.s := rfl
    rw [hd]
    refine ⟨bytesR_len _, by rw [nb, bytesR_len, bytesR_len]; show (_ + X.s.length) * 1 ≤ _; omega, by rw [bytesR_len, bytesR_len]; omega, ?_⟩
    conv => whnf
    refine Nx.intro ⟨j + 1, hlt⟩ (by dsimp only; omega) ?_
    dsimp only
    rw [hfl]
    refine Wk.intro [] rfl (fun p hp => by cases hp) ⟨.same rfl trivial, .same rfl (by exact rfl), .same rfl (by exact rfl), .same rfl (by exact rfl), .same rfl trivial, .same (congrArg (T.sl (some 26) 1) (bytesR_append _ _)) (by exact rfl), .same (congrArg i64 (by rw [wrap_i64 _ (by omega) (by omega)]; rfl)) trivial, trivial⟩
      ⟨⟨rfl, .inl ⟨rfl, zM_lt _⟩⟩, ⟨rfl, .inl ⟨rfl, i4_lt _ _ _ _ _⟩⟩, ⟨rfl, .inl ⟨rfl, mj_lt _ _ rfl _ _ _ _ _ _ _ _ _ _ _⟩⟩, ⟨rfl, .inl ⟨rfl, trivial⟩⟩, ⟨rfl, .inl ⟨congrArg (fun z => some (Blk.tok 1 z)) (by rw [bytesR_len, bytesR_len, List.length_append]), trivial⟩⟩, trivial⟩
  obtain rfl : j = p9.l.length := by have := of_decide_eq_false h1; omega
  rw [List.take_length]
  refine ⟨_, ⟨rfl, rfl⟩, ?_⟩
  conv => whnf
  refine ⟨_, A10, ?_⟩
  conv => whnf
  obtain ⟨D, hDD⟩ : ∃ D, (p9.l.map It.s).flatten = D := ⟨_, rfl⟩
  rw [hDD] at hec hD hin ⊢
  have yl := itR_len p10.l
  have yg : ∀ (j : Nat) (h : j < p10.l.length), (itR p10.l)[j]? = some (iR p10.l[j]) := fun j h => (itR_get (List.getElem?_eq_getElem h)).trans (congrArg some (itC_eq _))
  obtain ⟨RY, hRY⟩ : ∃ RY, itR p10.l = RY := ⟨_, rfl⟩
  rw [hRY] at yl yg ⊢
  refine loop_intro (fun z : { j : Nat // j ≤ p10.l.length } =>
    ⟨[(0, ts s), (2, .ptr 0 0 0), (6, .ptr 22 0 0), (12, .sl none 4 RY), (13, i64 (z.1 : Nat))], [(0, .own 11 [zM]), (22, .own 11 [[i64 p0.n, i64 p1.n, i64 p2.n, i64 p3.n, i64 p4.n, i64 p5.n, .sl none 2 (p6.l.map fun x => eC (refE x)), i64 p7.n, i64 p8.n, ts D, .sl (some 25) 7 ((p10.l.take z.1).map fun x => jC (refJ x))]]), (25, .tok 7 z.1)], 186, 26, []⟩) (fun z => p10.l.length - z.1) ⟨0, Nat.zero_le _⟩ ?_ ?_
  · refine Wk.intro [] rfl (fun p hp => by cases hp) ⟨.same rfl trivial, .same rfl (by exact rfl), .same rfl (by exact rfl), .same rfl trivial, .same rfl trivial, trivial⟩
      ⟨⟨rfl, .inl ⟨rfl, zM_lt _⟩⟩, ⟨rfl, .inl ⟨rfl, mj_lt _ _ rfl _ _ _ _ _ _ _ _ _ _ _⟩⟩, ⟨rfl, .inl ⟨rfl, trivial⟩⟩, trivial⟩
  rintro ⟨j, hj1⟩
  dsimp only at hj1 ⊢
  conv => whnf
  rw [yl]
  refine br_intro (fun h1 => ?_) (fun h1 => ?_) <;> (rw [h1]; conv => whnf)
  · have hlt : j < p10.l.length := by have := of_decide_eq_true h1; omega
    have qj := yg j hlt
    have htk : (p10.l.take (j + 1)).map (fun x => jC (refJ x)) = (p10.l.take j).map (fun x => jC (refJ x)) ++ [jC (refJ p10.l[j])] := by rw [List.take_add_one, List.getElem?_eq_getElem hlt, List.map_append]; rfl
    obtain ⟨X, hX⟩ : ∃ X, p10.l[j] = X := ⟨_, rfl⟩
    rw [hX] at qj htk
    have B0 : FCv Try.prog 40 [.agg (iR X), i64 0] (.agg (iR (g X 0))) := at_iR X 0 (by decide)
    have B1 : FCv Try.prog 40 [.agg (iR X), i64 1] (.agg (iR (g X 1))) := at_iR X 1 (by decide)
    have B2 : FCv Try.prog 40 [.agg (iR X), i64 2] (.agg (iR (g X 2))) := at_iR X 2 (by decide)
    have B3 : FCv Try.prog 40 [.agg (iR X), i64 3] (.agg (iR (g X 3))) := at_iR X 3 (by decide)
    have B4 : FCv Try.prog 40 [.agg (iR X), i64 4] (.agg (iR (g X 4))) := at_iR X 4 (by decide)
    have C0 : FCv Try.prog 40 [.agg (iR (g X 2)), i64 0] (.agg (iR (g (g X 2) 0))) := at_iR (g X 2) 0 (by decide)
    have C1 : FCv Try.prog 40 [.agg (iR (g X 2)), i64 1] (.agg (iR (g (g X 2) 1))) := at_iR (g X 2) 1 (by decide)
    have C2 : FCv Try.prog 40 [.agg (iR (g X 2)), i64 2] (.agg (iR (g (g X 2) 2))) := at_iR (g X 2) 2 (by decide)
    have hrJ : refJ X = ⟨(g X 0).s, (g X 1).s, ((g (g X 2) 0).n, (g (g X 2) 1).n, (g (g X 2) 2).n), (g X 3).s, (g X 4).n⟩ := rfl
    obtain ⟨e0, he0⟩ : ∃ e, g X 0 = e := ⟨_, rfl⟩
    rw [he0] at B0 hrJ
    obtain ⟨e1, he1⟩ : ∃ e, g X 1 = e := ⟨_, rfl⟩
    rw [he1] at B1 hrJ
    obtain ⟨e2, he2⟩ : ∃ e, g X 2 = e := ⟨_, rfl⟩
    rw [he2] at B2 hrJ C0 C1 C2
    obtain ⟨e3, he3⟩ : ∃ e, g X 3 = e := ⟨_, rfl⟩
    rw [he3] at B3 hrJ
    obtain ⟨e4, he4⟩ : ∃ e, g X 4 = e := ⟨_, rfl⟩
    rw [he4] at B4 hrJ
    obtain ⟨v0, hv0⟩ : ∃ e, g e2 0 = e := ⟨_, rfl⟩
    rw [hv0] at C0 hrJ
    obtain ⟨v1, hv1⟩ : ∃ e, g e2 1 = e := ⟨_, rfl⟩
    rw [hv1] at C1 hrJ
    obtain ⟨v2, hv2⟩ : ∃ e, g e2 2 = e := ⟨_, rfl⟩
    rw [hv2] at C2 hrJ
    refine ⟨by omega, nthK_intro qj ?_⟩
    conv => whnf
    refine ⟨_, B2, ?_⟩
    conv => whnf
    refine ⟨_, C0, ?_⟩
    conv => whnf
    refine ⟨by omega, nthK_intro qj ?_⟩
    conv => whnf
    refine ⟨_, B2, ?_⟩
    conv => whnf
    refine ⟨_, C1, ?_⟩
    conv => whnf
    refine ⟨by omega, nthK_intro qj ?_⟩
    conv => whnf
    refine ⟨_, B2, ?_⟩
    conv => whnf
    refine ⟨_, C2, ?_⟩
    conv => whnf
    refine ⟨by omega, nthK_intro qj ?_⟩
    conv => whnf
    refine ⟨_, B0, ?_⟩
    conv => whnf
    refine ⟨by omega, nthK_intro qj ?_⟩
    conv => whnf
    refine ⟨_, B1, ?_⟩
    conv => whnf
    refine ⟨by omega, nthK_intro qj ?_⟩
    conv => whnf
    refine ⟨_, B3, ?_⟩
    conv => whnf
    refine ⟨by omega, nthK_intro qj ?_⟩
    conv => whnf
    refine ⟨_, B4, ?_⟩
    conv => whnf
    have htl : ((p10.l.take j).map fun x => jC (refJ x)).length = j := by rw [List.length_map, List.length_take]; omega
    refine ⟨htl, by rw [htl]; show (j + 1) * 80 ≤ _; omega, by rw [htl]; show j + 1 ≤ _; omega, ?_⟩
    conv => whnf
    refine Nx.intro ⟨j + 1, hlt⟩ (by dsimp only; omega) ?_
    dsimp only
    rw [htk, hrJ]
    refine Wk.intro [] rfl (fun p hp => by cases hp) ⟨.same rfl trivial, .same rfl (by exact rfl), .same rfl (by exact rfl), .same rfl trivial, .same (congrArg i64 (by rw [wrap_i64 _ (by omega) (by omega)]; rfl)) trivial, trivial⟩
      ⟨⟨rfl, .inl ⟨rfl, zM_lt _⟩⟩, ⟨rfl, .inl ⟨rfl, mj_lt _ _ rfl _ _ _ _ _ _ _ _ _ _ _⟩⟩, ⟨rfl, .inl ⟨congrArg (fun z => some (Blk.tok 7 z)) (congrArg (· + 1) htl), trivial⟩⟩, trivial⟩
  obtain rfl : j = p10.l.length := by have := of_decide_eq_false h1; omega
  rw [List.take_length]
  obtain ⟨⟨es, ee⟩, hE⟩ : ∃ E, encM ⟨p0.n, p1.n, p2.n, p3.n, p4.n, p5.n, p6.l.map refE, p7.n, p8.n, D, p10.l.map refJ⟩ = E := ⟨_, rfl⟩
  rw [hE] at hec hD
  rw [hw] at hD
  dsimp only at hec
  refine ⟨_, hec, ?_⟩
  conv => whnf
  by_cases he0 : ee = 0
  rotate_left
  · rw [qn he0]
    conv => whnf
    rw [hD, if_neg (by intro h; exact he0 (congrArg Prod.snd h.2))]
    refine ⟨?_, .inl rfl, trivial⟩
    conv => whnf
    exact zend
  rw [qq he0]
  conv => whnf
  rw [strD]
  by_cases hs0 : es = s
  rotate_left
  · rw [decide_eq_false hs0]
    conv => whnf
    rw [hD, if_neg (by intro h; exact hs0 (congrArg Prod.fst h.2))]
    refine ⟨?_, .inl rfl, trivial⟩
    conv => whnf
    exact zend
  rw [decide_eq_true hs0]
  conv => whnf
  rw [hD, if_pos ⟨rfl, by rw [he0, hs0]⟩]
  unfold mC
  dsimp only
  rw [List.map_map, List.map_map]
  refine ⟨?_, .inl rfl, trivial⟩
  conv => whnf
  exact .inl rfl
end Go.AW.Ml
