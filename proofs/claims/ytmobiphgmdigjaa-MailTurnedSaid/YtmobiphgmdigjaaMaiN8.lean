import Derived.Test.YtmobiphgmdigjaaMaiN6
/- Mails: decoding, walked. -/
set_option linter.unusedVariables false
set_option linter.unusedSimpArgs false
namespace Go.AW.Ml
open Go Go.AW Go.AW.Wir Go.AW.Cm Go.Proofs
set_option maxRecDepth 40000
set_option pp.maxSteps 60

theorem okM_iff {i : It} : okM i = true ↔ kindsB i [1, 1, 1, 1, 1, 1, 3, 1, 1, 3, 3] = true ∧ wi (g i 0).n 0 9 = true ∧ (∀ x ∈ (g i 6).l, okE x = true) ∧ okP (g i 9).l = true ∧ ∀ x ∈ (g i 10).l, okJ x = true := by
  unfold okM; simp only [Bool.and_eq_true, List.all_eq_true]
abbrev iR (i : It) : List T := [i64 i.k, i64 i.n, ts i.s, .sl none 4 (itR i.l)]
abbrev zM : List T := [i64 0, i64 0, i64 0, i64 0, i64 0, i64 0, .lit (.slice none 0 0), i64 0, i64 0, ts [], .lit (.slice none 0 0)]
theorem zend : le1 (.agg zM) (.agg (mC zeroM)) :=
  .inr (.inr (.inr ⟨.inl rfl, .inl rfl, .inl rfl, .inl rfl, .inl rfl, .inl rfl, .inr (.inl ⟨rfl, 2, rfl⟩), .inl rfl, .inl rfl, .inl rfl, .inr (.inl ⟨rfl, 7, rfl⟩), trivial⟩))
theorem strApp (a b : List UInt8) : (⟨a.toArray⟩ : ByteArray) ++ ⟨b.toArray⟩ = ⟨(a ++ b).toArray⟩ := by
  apply ByteArray.ext
  apply Array.ext'
  simp
theorem zM_lt (x : Nat) : blkLt x (.own 11 [zM]) := by
  intro row hr e he
  obtain rfl := List.mem_singleton.1 hr
  simp only [List.mem_cons, List.mem_nil_iff, or_false] at he
  rcases he with rfl | rfl | rfl | rfl | rfl | rfl | rfl | rfl | rfl | rfl | rfl <;> trivial
theorem newD : ∀ p ∈ [(40, 2), (41, 7)], 40 ≤ p.1 ∧ p.1 < 42 ∧ ∀ q ∈ [(40, 2), (41, 7)], q.1 = p.1 → q = p := by decide
theorem mail_own {new : List (Nat × Nat)} {x id jd : Nat} {k t a b c d si st : Int} {sd : List UInt8} (h1 : (id, 2) ∈ new) (h2 : (jd, 7) ∈ new) :
    rowsLe new x [[i64 k, i64 t, i64 a, i64 b, i64 c, i64 d, .lit (.slice none 0 0), i64 si, i64 st, ts sd, .lit (.slice none 0 0)]] [[i64 k, i64 t, i64 a, i64 b, i64 c, i64 d, .sl (some id) 2 [], i64 si, i64 st, ts sd, .sl (some jd) 7 []]] :=
  ⟨⟨.inl ⟨rfl, trivial⟩, .inl ⟨rfl, trivial⟩, .inl ⟨rfl, trivial⟩, .inl ⟨rfl, trivial⟩, .inl ⟨rfl, trivial⟩, .inl ⟨rfl, trivial⟩, .inr (.inr (.inr (.inl ⟨rfl, id, 2, rfl, h1⟩))), .inl ⟨rfl, trivial⟩, .inl ⟨rfl, trivial⟩, .inl ⟨rfl, trivial⟩, .inr (.inr (.inr (.inl ⟨rfl, jd, 7, rfl, h2⟩))), trivial⟩, trivial⟩
theorem mk_lt (x id jd : Nat) (h1 : Nat.blt id x = true) (h2 : Nat.blt jd x = true) (k t a b c d : Int) (RL : List (List T)) (si st : Int) (sd : List UInt8) (RJ : List (List T)) : blkLt x (.own 11 [[i64 k, i64 t, i64 a, i64 b, i64 c, i64 d, .sl (some id) 2 RL, i64 si, i64 st, ts sd, .sl (some jd) 7 RJ]]) := by
  intro row hr e he
  obtain rfl := List.mem_singleton.1 hr
  simp only [List.mem_cons, List.mem_nil_iff, or_false] at he
  rcases he with rfl | rfl | rfl | rfl | rfl | rfl | rfl | rfl | rfl | rfl | rfl <;> first | trivial | exact h1 | exact h2
theorem mj_lt (x jd : Nat) (h2 : Nat.blt jd x = true) (k t a b c d : Int) (RL : List (List T)) (si st : Int) (sd : List UInt8) (RJ : List (List T)) : blkLt x (.own 11 [[i64 k, i64 t, i64 a, i64 b, i64 c, i64 d, .sl none 2 RL, i64 si, i64 st, ts sd, .sl (some jd) 7 RJ]]) := by
  intro row hr e he
  obtain rfl := List.mem_singleton.1 hr
  simp only [List.mem_cons, List.mem_nil_iff, or_false] at he
  rcases he with rfl | rfl | rfl | rfl | rfl | rfl | rfl | rfl | rfl | rfl | rfl <;> first | trivial | exact h2
theorem unown1 {new : List (Nat × Nat)} {x id jd : Nat} {k t a b c d si st : Int} {sd : List UInt8} {RL RJ : List (List T)} (h : Nat.blt jd x = true) :
    rowsLe new x [[i64 k, i64 t, i64 a, i64 b, i64 c, i64 d, .sl (some id) 2 RL, i64 si, i64 st, ts sd, .sl (some jd) 7 RJ]] [[i64 k, i64 t, i64 a, i64 b, i64 c, i64 d, .sl none 2 RL, i64 si, i64 st, ts sd, .sl (some jd) 7 RJ]] :=
  ⟨⟨.inl ⟨rfl, trivial⟩, .inl ⟨rfl, trivial⟩, .inl ⟨rfl, trivial⟩, .inl ⟨rfl, trivial⟩, .inl ⟨rfl, trivial⟩, .inl ⟨rfl, trivial⟩, .inr (.inr (.inr (.inr ⟨some id, 2, RL, rfl, rfl⟩))), .inl ⟨rfl, trivial⟩, .inl ⟨rfl, trivial⟩, .inl ⟨rfl, trivial⟩, .inl ⟨rfl, h⟩, trivial⟩, trivial⟩
theorem mdec_law (s : List UInt8) (hs : s.length ≤ 140737488351232) : FCv Try.prog 14 [ts s] (.tup [.agg (mC (decM s).1), i64 (decM s).2]) := by
  have d := decode_law s hs
  have hD : decM s = if (Wir.decode s).2 = 0 ∧ okM (Wir.decode s).1 = true ∧ mayM (refM (Wir.decode s).1) = true then (refM (Wir.decode s).1, 0) else (zeroM, 4) := rfl
  have he := decode_e s
  have hgd := fun h => gd_dec (s := s) (i := (Wir.decode s).1) h
  obtain ⟨R, hR⟩ : ∃ R, decM s = R := ⟨_, rfl⟩
  rw [hR] at hD ⊢
  obtain ⟨⟨i, e⟩, hi⟩ : ∃ p, Wir.decode s = p := ⟨_, rfl⟩
  rw [hi] at d hD he hgd
  dsimp only at d hD he hgd
  have zres : ∀ K : T → Prop, (R = (zeroM, 4) → K (.tup [.agg (mC zeroM), i64 4])) → R = (zeroM, 4) → K (.tup [.agg (mC R.1), i64 R.2]) := fun K h1 h2 => by rw [h2]; exact h1 h2
  rcases he with rfl | he
  rotate_left
  · cases he
    rw [itT_row] at d
    have hR4 : R = (zeroM, 4) := hD
    rw [hR4]
    refine FCv_of_awp (fn := Try.f14) (c := bodyC Try.f14) Try.func14 rfl (of_decide_eq_true rfl) [] ?_
    conv => whnf
    refine ⟨_, d, ?_⟩
    conv => whnf
    refine ⟨?_, .inl rfl, trivial⟩
    conv => whnf
    exact zend
  have hgd := hgd rfl
  have hno : okM i = false → R = (zeroM, 4) := fun h => by rw [hD, if_neg (by rw [h]; simp)]
  have hOK := @okM_iff i
  obtain ⟨B, hB⟩ : ∃ B, okM i = B := ⟨_, rfl⟩
  have hsh := shaped_law i [1, 1, 1, 1, 1, 1, 3, 1, 1, 3, 3] (by decide) (by have := gd_l hgd; omega)
  cases hk : kindsB i [1, 1, 1, 1, 1, 1, 3, 1, 1, 3, 3] with
  | false =>
    rw [hk] at hsh
    rw [itT_row] at d hsh
    rw [hno (by cases h : okM i with | false => rfl | true => rw [(okM_iff.1 h).1] at hk; cases hk)]
    refine FCv_of_awp (fn := Try.f14) (c := bodyC Try.f14) Try.func14 rfl (of_decide_eq_true rfl) [] ?_
    conv => whnf
    refine ⟨_, d, ?_⟩
    conv => whnf
    refine ⟨_, hsh, ?_⟩
    conv => whnf
    refine ⟨?_, .inl rfl, trivial⟩
    conv => whnf
    exact zend
  | true =>
  rw [hk] at hsh
  obtain ⟨ik, il⟩ := kindsB_iff.1 hk
  obtain ⟨a, b, c, d', e', f, q, u, v, x, y, hl, k0, k1, k2, k3, k4, k5, k6, k7, k8, k9, k10⟩ := kinds11 il
  have hrf : refM i = ⟨a.n, b.n, c.n, d'.n, e'.n, f.n, q.l.map refE, u.n, v.n, (x.l.map It.s).flatten, y.l.map refJ⟩ := by
    unfold refM g; rw [hl]; rfl
  have hin := refM_in hgd
  have hOK2 : okM i = true ↔ wi a.n 0 9 = true ∧ (∀ x ∈ q.l, okE x = true) ∧ okP x.l = true ∧ ∀ x ∈ y.l, okJ x = true := by
    rw [hOK, hk]; unfold g; rw [hl]; exact ⟨fun h => h.2, fun h => ⟨rfl, h⟩⟩
  have gq : Gd q := gd_mem hgd (by rw [hl]; simp)
  have gx : Gd x := gd_mem hgd (by rw [hl]; simp)
  have gy : Gd y := gd_mem hgd (by rw [hl]; simp)
  rw [hrf] at hD hin
  have hm := may_law _ hin
  unfold mC at hm
  dsimp only at hm
  have r0 : (itR i.l)[0]? = some (iR a) := by rw [hl]; exact congrArg some (itC_eq _)
  have r1 : (itR i.l)[1]? = some (iR b) := by rw [hl]; exact congrArg some (itC_eq _)
  have r2 : (itR i.l)[2]? = some (iR c) := by rw [hl]; exact congrArg some (itC_eq _)
  have r3 : (itR i.l)[3]? = some (iR d') := by rw [hl]; exact congrArg some (itC_eq _)
  have r4 : (itR i.l)[4]? = some (iR e') := by rw [hl]; exact congrArg some (itC_eq _)
  have r5 : (itR i.l)[5]? = some (iR f) := by rw [hl]; exact congrArg some (itC_eq _)
  have r6 : (itR i.l)[6]? = some (iR q) := by rw [hl]; exact congrArg some (itC_eq _)
  have r7 : (itR i.l)[7]? = some (iR u) := by rw [hl]; exact congrArg some (itC_eq _)
  have r8 : (itR i.l)[8]? = some (iR v) := by rw [hl]; exact congrArg some (itC_eq _)
  have r9 : (itR i.l)[9]? = some (iR x) := by rw [hl]; exact congrArg some (itC_eq _)
  have r10 : (itR i.l)[10]? = some (iR y) := by rw [hl]; exact congrArg some (itC_eq _)
  rw [itT_row] at d hsh
  obtain ⟨RW, hRW⟩ : ∃ RW, itR i.l = RW := ⟨_, rfl⟩
  rw [hRW] at r0 r1 r2 r3 r4 r5 r6 r7 r8 r9 r10 d hsh
  have w1 := within_law a.n 0 9
  refine FCv_of_awp (fn := Try.f14) (c := bodyC Try.f14) Try.func14 rfl (of_decide_eq_true rfl) [] ?_
  conv => whnf
  refine ⟨_, d, ?_⟩
  conv => whnf
  refine ⟨_, hsh, ?_⟩
  conv => whnf
  refine ⟨by decide, nthK_intro r0 ?_⟩
  conv => whnf
  refine ⟨_, w1, ?_⟩
  conv => whnf
  cases hw : wi a.n 0 9 with
  | false =>
    conv => whnf
    rw [hno (by cases h : okM i with | false => rfl | true => rw [(hOK2.1 h).1] at hw; cases hw)]
    refine ⟨?_, .inl rfl, trivial⟩
    conv => whnf
    exact zend
  | true =>
  rw [hw] at hOK2
  conv => whnf
  refine ⟨by decide, nthK_intro r0 ?_⟩
  conv => whnf
  refine ⟨by decide, nthK_intro r1 ?_⟩
  conv => whnf
  refine ⟨by decide, nthK_intro r2 ?_⟩
  conv => whnf
  refine ⟨by decide, nthK_intro r3 ?_⟩
  conv => whnf
  refine ⟨by decide, nthK_intro r4 ?_⟩
  conv => whnf
  refine ⟨by decide, nthK_intro r5 ?_⟩
  conv => whnf
  refine ⟨by decide, nthK_intro r7 ?_⟩
  conv => whnf
  refine ⟨by decide, nthK_intro r8 ?_⟩
  conv => whnf
  refine ⟨by decide, nthK_intro r6 ?_⟩
  conv => whnf
  have hql := gd_l gq
  have hxl := gd_l gx
  have hyl := gd_l gy
  have q1 := itR_len q.l
  have q2 : ∀ (j : Nat) (h : j < q.l.length), (itR q.l)[j]? = some (iR q.l[j]) := fun j h => (itR_get (List.getElem?_eq_getElem h)).trans (congrArg some (itC_eq _))
  obtain ⟨RQ, hRQ⟩ : ∃ RQ, itR q.l = RQ := ⟨_, rfl⟩
  rw [hRQ] at q1 q2 ⊢
  rw [q1]
  refine loop_intro (fun y : { j : Nat // j ≤ q.l.length ∧ ∀ x ∈ q.l.take j, okE x = true } =>
    ⟨[(2, .ptr 0 0 0), (6, .sl none 4 RW), (7, .ptr 38 0 0), (78, .sl none 4 RQ), (79, i64 (q.l.length : Nat)), (80, i64 (y.1 : Nat))], [(0, .own 11 [zM]), (38, .own 11 [[i64 a.n, i64 b.n, i64 c.n, i64 d'.n, i64 e'.n, i64 f.n, .sl (some 40) 2 ((q.l.take y.1).map fun x => eC (refE x)), i64 u.n, i64 v.n, ts [], .sl (some 41) 7 []]]), (40, .tok 2 y.1), (41, .tok 7 0)], 223, 42, []⟩) (fun y => q.l.length - y.1) ⟨0, Nat.zero_le _, by simp⟩ ?_ ?_
  · refine Wk.intro [(40, 2), (41, 7)] rfl newD ⟨.same rfl (by exact rfl), .same rfl trivial, .same rfl (by exact rfl), .same rfl trivial, .same rfl trivial, .same rfl trivial, trivial⟩
      ⟨⟨rfl, .inl ⟨rfl, zM_lt _⟩⟩, ⟨rfl, .inr (.inr ⟨11, _, _, rfl, rfl, mail_own (by simp) (by simp)⟩)⟩, ⟨rfl, .inr (.inl ⟨2, by simp, rfl⟩)⟩, ⟨rfl, .inr (.inl ⟨7, by simp, rfl⟩)⟩, trivial⟩
  rintro ⟨j, hj1, hj2⟩
  dsimp only at hj1 hj2 ⊢
  conv => whnf
  refine br_intro (fun h1 => ?_) (fun h1 => ?_) <;> (rw [h1]; conv => whnf)
  · have hlt : j < q.l.length := by have := of_decide_eq_true h1; omega
    have qj := q2 j hlt
    have hmem : q.l[j] ∈ q.l := List.getElem_mem hlt
    have htk : (q.l.take (j + 1)).map (fun x => eC (refE x)) = (q.l.take j).map (fun x => eC (refE x)) ++ [eC (refE q.l[j])] := by rw [List.take_add_one, List.getElem?_eq_getElem hlt, List.map_append]; rfl
    have htm : ∀ z ∈ q.l.take (j + 1), z ∈ q.l.take j ∨ z = q.l[j] := by
      intro z hz
      rw [List.take_add_one, List.getElem?_eq_getElem hlt] at hz
      rcases List.mem_append.1 hz with hz | hz
      · exact .inl hz
      · exact .inr (List.mem_singleton.1 hz)
    obtain ⟨X, hX⟩ : ∃ X, q.l[j] = X := ⟨_, rfl⟩
    rw [hX] at qj hmem htk htm
    have gX := gd_mem gq hmem
    have sX := shaped_law X [1, 2] (by decide) (by have := gd_l gX; omega)
    rw [itT_row] at sX
    have hkE : okE X = kindsB X [1, 2] := rfl
    cases hE : kindsB X [1, 2] with
    | false =>
      rw [hE] at sX
      obtain ⟨RX, hRX⟩ : ∃ RX, itR X.l = RX := ⟨_, rfl⟩
      change RQ[j]? = some [i64 X.k, i64 X.n, ts X.s, .sl none 4 (itR X.l)] at qj
      rw [hRX] at qj sX
      refine ⟨by omega, nthK_intro qj ?_⟩
      conv => whnf
      refine ⟨_, sX, ?_⟩
      conv => whnf
      rw [hno (by cases h : okM i with | false => rfl | true => have := (hOK2.1 h).2.1 X hmem; rw [hkE, hE] at this; cases this)]
      refine ⟨?_, .inl rfl, trivial⟩
      conv => whnf
      exact zend
    | true =>
      rw [hE] at sX
      obtain ⟨e1, e2, hl2, kk1, kk2⟩ := kinds2 (kindsB_iff.1 hE).2
      have x0 : (itR X.l)[0]? = some (iR e1) := by rw [hl2]; exact congrArg some (itC_eq _)
      have x1 : (itR X.l)[1]? = some (iR e2) := by rw [hl2]; exact congrArg some (itC_eq _)
      have hrE : refE X = ⟨e1.n, e2.s⟩ := by unfold refE g; rw [hl2]; rfl
      obtain ⟨RX, hRX⟩ : ∃ RX, itR X.l = RX := ⟨_, rfl⟩
      change RQ[j]? = some [i64 X.k, i64 X.n, ts X.s, .sl none 4 (itR X.l)] at qj
      rw [hRX] at qj sX x0 x1
      refine ⟨by omega, nthK_intro qj ?_⟩
      conv => whnf
      refine ⟨_, sX, ?_⟩
      conv => whnf
      refine ⟨by decide, nthK_intro x0 ?_⟩
      conv => whnf
      refine ⟨by decide, nthK_intro x1 ?_⟩
      conv => whnf
      have htl : ((q.l.take j).map fun x => eC (refE x)).length = j := by rw [List.length_map, List.length_take]; omega
      refine ⟨htl, by rw [htl]; show (j + 1) * 24 ≤ _; omega, by rw [htl]; show j + 1 ≤ _; omega, ?_⟩
      conv => whnf
      refine Nx.intro ⟨j + 1, hlt, fun z hz => (htm z hz).elim (hj2 z) (fun h => by rw [h, hkE, hE])⟩ (by dsimp only; omega) ?_
      dsimp only
      rw [htk, hrE]
      refine Wk.intro [] rfl (fun p hp => by cases hp) ⟨.same rfl (by exact rfl), .same rfl trivial, .same rfl (by exact rfl), .same rfl trivial, .same rfl trivial, .same (congrArg i64 (by rw [wrap_i64 _ (by omega) (by omega)]; rfl)) trivial, trivial⟩
        ⟨⟨rfl, .inl ⟨rfl, zM_lt _⟩⟩, ⟨rfl, .inl ⟨rfl, mk_lt _ _ _ rfl rfl _ _ _ _ _ _ _ _ _ _ _⟩⟩, ⟨rfl, .inl ⟨congrArg (fun z => some (Blk.tok 2 z)) (congrArg (· + 1) htl), trivial⟩⟩, ⟨rfl, .inl ⟨rfl, trivial⟩⟩, trivial⟩
  obtain rfl : j = q.l.length := by have := of_decide_eq_false h1; omega
  rw [List.take_length] at hj2 ⊢
  have hEs := hj2
  refine ⟨by decide, nthK_intro r9 ?_⟩
  conv => whnf
  have xl := itR_len x.l
  have xg : ∀ (j : Nat) (h : j < x.l.length), (itR x.l)[j]? = some (iR x.l[j]) := fun j h => (itR_get (List.getElem?_eq_getElem h)).trans (congrArg some (itC_eq _))
  change RW[9]? = some [i64 x.k, i64 x.n, ts x.s, .sl none 4 (itR x.l)] at r9
  obtain ⟨RX, hRX⟩ : ∃ RX, itR x.l = RX := ⟨_, rfl⟩
  rw [hRX] at xl xg r9 ⊢
  rw [xl]
  refine loop_intro (fun z : { j : Nat // j ≤ x.l.length ∧ (okP x.l = true ↔ okP (x.l.drop j) = true) } =>
    ⟨[(2, .ptr 0 0 0), (6, .sl none 4 RW), (7, .ptr 38 0 0), (109, .sl none 4 RX), (110, i64 (x.l.length : Nat)), (111, i64 (z.1 : Nat))], [(0, .own 11 [zM]), (38, .own 11 [[i64 a.n, i64 b.n, i64 c.n, i64 d'.n, i64 e'.n, i64 f.n, .sl none 2 (q.l.map fun x => eC (refE x)), i64 u.n, i64 v.n, ts ((x.l.take z.1).map It.s).flatten, .sl (some 41) 7 []]]), (41, .tok 7 0)], 223, 42, []⟩) (fun z => x.l.length - z.1) ⟨0, Nat.zero_le _, Iff.rfl⟩ ?_ ?_
  · refine Wk.intro [] rfl (fun p hp => by cases hp) ⟨.same rfl (by exact rfl), .same rfl trivial, .same rfl (by exact rfl), .same rfl trivial, .same rfl trivial, .same rfl trivial, trivial⟩
      ⟨⟨rfl, .inl ⟨rfl, zM_lt _⟩⟩, ⟨rfl, .inr (.inr ⟨11, _, _, rfl, rfl, unown1 rfl⟩)⟩, ⟨rfl, .inl ⟨rfl, trivial⟩⟩, trivial⟩
  rintro ⟨j, hj1, hj2⟩
  dsimp only at hj1 hj2 ⊢
  conv => whnf
  refine br_intro (fun h1 => ?_) (fun h1 => ?_) <;> (rw [h1]; conv => whnf)
  · have hlt : j < x.l.length := by have := of_decide_eq_true h1; omega
    have qj := xg j hlt
    have hmem : x.l[j] ∈ x.l := List.getElem_mem hlt
    have hdd : x.l.drop j = x.l[j] :: x.l.drop (j + 1) := List.drop_eq_getElem_cons hlt
    have htk : x.l.take (j + 1) = x.l.take j ++ [x.l[j]] := by rw [List.take_add_one, List.getElem?_eq_getElem hlt]; rfl
    have hne : x.l.drop (j + 1) ≠ [] ↔ j + 1 < x.l.length := by rw [Ne, List.drop_eq_nil_iff]; omega
    obtain ⟨X, hX⟩ : ∃ X, x.l[j] = X := ⟨_, rfl⟩
    rw [hX] at qj hmem hdd htk
    have gX := gd_mem gx hmem
    have hfl : ((x.l.take (j + 1)).map It.s).flatten = ((x.l.take j).map It.s).flatten ++ X.s := by rw [htk, List.map_append, List.flatten_append]; simp
    have hst : x.l.drop j = X :: x.l.drop (j + 1) → (okP (x.l.drop j) = true ↔ (X.k = 2 ∧ X.s ≠ [] ∧ (j + 1 < x.l.length → X.s.length = 4096)) ∧ okP (x.l.drop (j + 1)) = true) := fun h => by
      rw [h, okP_step (gd_s gX)]
      exact ⟨fun h => ⟨⟨h.1.1, h.1.2.1, fun g => h.1.2.2 (hne.2 g)⟩, h.2⟩, fun h => ⟨⟨h.1.1, h.1.2.1, fun g => h.1.2.2 (hne.1 g)⟩, h.2⟩⟩
    have nok : ¬ (X.k = 2 ∧ X.s ≠ [] ∧ (j + 1 < x.l.length → X.s.length = 4096)) → okM i = false := fun hn => by
      cases h : okM i with
      | false => rfl
      | true => exact absurd ((hst hdd).1 (hj2.1 (hOK2.1 h).2.2.1)).1 hn
    have hAl := flat_len (l := (x.l.take j).map It.s) (by
      intro z hz
      obtain ⟨y', hy', rfl⟩ := List.mem_map.1 hz
      exact gd_s (gd_mem gx (List.mem_of_mem_take hy')))
    rw [List.length_map, List.length_take] at hAl
    have hXs := gd_s gX
    obtain ⟨A, hA⟩ : ∃ A, ((x.l.take j).map It.s).flatten = A := ⟨_, rfl⟩
    obtain ⟨A', hA'⟩ : ∃ A, ((x.l.take (j + 1)).map It.s).flatten = A := ⟨_, rfl⟩
    rw [hA, hA'] at hfl
    rw [hA] at hAl ⊢
    refine ⟨by omega, nthK_intro qj ?_⟩
    conv => whnf
    by_cases hk2 : X.k = 2
    rotate_left
    · rw [qn hk2]
      conv => whnf
      rw [hno (nok fun h => hk2 h.1)]
      refine ⟨?_, .inl rfl, trivial⟩
      conv => whnf
      exact zend
    rw [qq hk2]
    conv => whnf
    rw [emptyD]
    by_cases hs0 : X.s = []
    · rw [decide_eq_true hs0]
      conv => whnf
      rw [hno (nok fun h => h.2.1 hs0)]
      refine ⟨?_, .inl rfl, trivial⟩
      conv => whnf
      exact zend
    rw [decide_eq_false hs0]
    conv => whnf
    refine ⟨by decide, nthK_intro r9 ?_⟩
    conv => whnf
    rw [xl, wrap_i64 _ (by omega) (by omega)]
    by_cases hlast : j + 1 < x.l.length
    · rw [decide_eq_true (show (j : Int) < ((x.l.length : Nat) : Int) - 1 by omega)]
      conv => whnf
      rw [sizeD]
      by_cases h4 : X.s.length = 4096
      rotate_left
      · rw [qn (show ¬ ((X.s.length : Nat) : Int) = 4096 by omega)]
        conv => whnf
        rw [hno (nok fun h => h4 (h.2.2 hlast))]
        refine ⟨?_, .inl rfl, trivial⟩
        conv => whnf
        exact zend
      rw [qq (show ((X.s.length : Nat) : Int) = 4096 by omega)]
      conv => whnf
      rw [strApp, ← hfl]
      refine ⟨by rw [sizeD, sizeD]; omega, ?_⟩
      conv => whnf
      refine Nx.intro ⟨j + 1, hlt, hj2.trans ((hst hdd).trans ⟨fun h => h.2, fun h => ⟨⟨hk2, hs0, fun _ => h4⟩, h⟩⟩)⟩ (by dsimp only; omega) ?_
      dsimp only
      rw [hA']
      refine Wk.intro [] rfl (fun p hp => by cases hp) ⟨.same rfl (by exact rfl), .same rfl trivial, .same rfl (by exact rfl), .same rfl trivial, .same rfl trivial, .same (congrArg i64 (by rw [wrap_i64 _ (by omega) (by omega)]; rfl)) trivial, trivial⟩
        ⟨⟨rfl, .inl ⟨rfl, zM_lt _⟩⟩, ⟨rfl, .inl ⟨rfl, mj_lt _ _ rfl _ _ _ _ _ _ _ _ _ _ _⟩⟩, ⟨rfl, .inl ⟨rfl, trivial⟩⟩, trivial⟩
    · rw [decide_eq_false (show ¬ (j : Int) < ((x.l.length : Nat) : Int) - 1 by omega)]
      conv => whnf
      rw [strApp, ← hfl]
      refine ⟨by rw [sizeD, sizeD]; omega, ?_⟩
      conv => whnf
      refine Nx.intro ⟨j + 1, hlt, hj2.trans ((hst hdd).trans ⟨fun h => h.2, fun h => ⟨⟨hk2, hs0, fun h => absurd h hlast⟩, h⟩⟩)⟩ (by dsimp only; omega) ?_
      dsimp only
      rw [hA']
      refine Wk.intro [] rfl (fun p hp => by cases hp) ⟨.same rfl (by exact rfl), .same rfl trivial, .same rfl (by exact rfl), .same rfl trivial, .same rfl trivial, .same (congrArg i64 (by rw [wrap_i64 _ (by omega) (by omega)]; rfl)) trivial, trivial⟩
        ⟨⟨rfl, .inl ⟨rfl, zM_lt _⟩⟩, ⟨rfl, .inl ⟨rfl, mj_lt _ _ rfl _ _ _ _ _ _ _ _ _ _ _⟩⟩, ⟨rfl, .inl ⟨rfl, trivial⟩⟩, trivial⟩
  obtain rfl : j = x.l.length := by have := of_decide_eq_false h1; omega
  rw [List.take_length]
  rw [List.drop_length] at hj2
  have hPs : okP x.l = true := hj2.2 rfl
  refine ⟨by decide, nthK_intro r10 ?_⟩
  conv => whnf
  have yl := itR_len y.l
  have yg : ∀ (j : Nat) (h : j < y.l.length), (itR y.l)[j]? = some (iR y.l[j]) := fun j h => (itR_get (List.getElem?_eq_getElem h)).trans (congrArg some (itC_eq _))
  change RW[10]? = some [i64 y.k, i64 y.n, ts y.s, .sl none 4 (itR y.l)] at r10
  obtain ⟨RY, hRY⟩ : ∃ RY, itR y.l = RY := ⟨_, rfl⟩
  rw [hRY] at yl yg r10 ⊢
  rw [yl]
  obtain ⟨D, hDD⟩ : ∃ D, (x.l.map It.s).flatten = D := ⟨_, rfl⟩
  rw [hDD] at hm hD hin ⊢
  refine loop_intro (fun z : { j : Nat // j ≤ y.l.length ∧ ∀ x ∈ y.l.take j, okJ x = true } =>
    ⟨[(2, .ptr 0 0 0), (7, .ptr 38 0 0), (153, .sl none 4 RY), (154, i64 (y.l.length : Nat)), (155, i64 (z.1 : Nat))], [(0, .own 11 [zM]), (38, .own 11 [[i64 a.n, i64 b.n, i64 c.n, i64 d'.n, i64 e'.n, i64 f.n, .sl none 2 (q.l.map fun x => eC (refE x)), i64 u.n, i64 v.n, ts D, .sl (some 41) 7 ((y.l.take z.1).map fun x => jC (refJ x))]]), (41, .tok 7 z.1)], 223, 42, []⟩) (fun z => y.l.length - z.1) ⟨0, Nat.zero_le _, by simp⟩ ?_ ?_
  · refine Wk.intro [] rfl (fun p hp => by cases hp) ⟨.same rfl (by exact rfl), .same rfl (by exact rfl), .same rfl trivial, .same rfl trivial, .same rfl trivial, trivial⟩
      ⟨⟨rfl, .inl ⟨rfl, zM_lt _⟩⟩, ⟨rfl, .inl ⟨rfl, mj_lt _ _ rfl _ _ _ _ _ _ _ _ _ _ _⟩⟩, ⟨rfl, .inl ⟨rfl, trivial⟩⟩, trivial⟩
  rintro ⟨j, hj1, hj2⟩
  dsimp only at hj1 hj2 ⊢
  conv => whnf
  refine br_intro (fun h1 => ?_) (fun h1 => ?_) <;> (rw [h1]; conv => whnf)
  · have hlt : j < y.l.length := by have := of_decide_eq_true h1; omega
    have qj := yg j hlt
    have hmem : y.l[j] ∈ y.l := List.getElem_mem hlt
    have htk : (y.l.take (j + 1)).map (fun x => jC (refJ x)) = (y.l.take j).map (fun x => jC (refJ x)) ++ [jC (refJ y.l[j])] := by rw [List.take_add_one, List.getElem?_eq_getElem hlt, List.map_append]; rfl
    have htm : ∀ z ∈ y.l.take (j + 1), z ∈ y.l.take j ∨ z = y.l[j] := by
      intro z hz
      rw [List.take_add_one, List.getElem?_eq_getElem hlt] at hz
      rcases List.mem_append.1 hz with hz | hz
      · exact .inl hz
      · exact .inr (List.mem_singleton.1 hz)
    obtain ⟨X, hX⟩ : ∃ X, y.l[j] = X := ⟨_, rfl⟩
    rw [hX] at qj hmem htk htm
    have gX := gd_mem gy hmem
    have sX := shaped_law X [2, 2, 3, 2, 1] (by decide) (by have := gd_l gX; omega)
    rw [itT_row] at sX
    have hkJ : okJ X = (kindsB X [2, 2, 3, 2, 1] && kindsB (g X 2) [1, 1, 1]) := rfl
    have nok : ¬ okJ X = true → okM i = false := fun hn => by
      cases h : okM i with
      | false => rfl
      | true => exact absurd ((hOK2.1 h).2.2.2 X hmem) hn
    cases hE : kindsB X [2, 2, 3, 2, 1] with
    | false =>
      rw [hE] at sX
      obtain ⟨RX, hRX⟩ : ∃ RX, itR X.l = RX := ⟨_, rfl⟩
      change RY[j]? = some [i64 X.k, i64 X.n, ts X.s, .sl none 4 (itR X.l)] at qj
      rw [hRX] at qj sX
      refine ⟨by omega, nthK_intro qj ?_⟩
      conv => whnf
      refine ⟨_, sX, ?_⟩
      conv => whnf
      rw [hno (nok (by rw [hkJ, hE]; simp))]
      refine ⟨?_, .inl rfl, trivial⟩
      conv => whnf
      exact zend
    | true =>
      rw [hE] at sX
      obtain ⟨e0, e1, e2, e3, e4, hl5, kk0, kk1, kk2, kk3, kk4⟩ := kinds5 (kindsB_iff.1 hE).2
      have g2 : g X 2 = e2 := by unfold g; rw [hl5]; rfl
      rw [g2] at hkJ
      have x0 : (itR X.l)[0]? = some (iR e0) := by rw [hl5]; exact congrArg some (itC_eq _)
      have x1 : (itR X.l)[1]? = some (iR e1) := by rw [hl5]; exact congrArg some (itC_eq _)
      have x2 : (itR X.l)[2]? = some (iR e2) := by rw [hl5]; exact congrArg some (itC_eq _)
      have x3 : (itR X.l)[3]? = some (iR e3) := by rw [hl5]; exact congrArg some (itC_eq _)
      have x4 : (itR X.l)[4]? = some (iR e4) := by rw [hl5]; exact congrArg some (itC_eq _)
      have ge2 : Gd e2 := gd_mem gX (by rw [hl5]; simp)
      have sE := shaped_law e2 [1, 1, 1] (by decide) (by have := gd_l ge2; omega)
      rw [itT_row] at sE
      obtain ⟨RX, hRX⟩ : ∃ RX, itR X.l = RX := ⟨_, rfl⟩
      change RY[j]? = some [i64 X.k, i64 X.n, ts X.s, .sl none 4 (itR X.l)] at qj
      rw [hRX] at qj sX x0 x1 x2 x3 x4
      refine ⟨by omega, nthK_intro qj ?_⟩
      conv => whnf
      refine ⟨_, sX, ?_⟩
      conv => whnf
      cases hV : kindsB e2 [1, 1, 1] with
      | false =>
        rw [hV] at sE
        obtain ⟨RE, hRE⟩ : ∃ RE, itR e2.l = RE := ⟨_, rfl⟩
        change RX[2]? = some [i64 e2.k, i64 e2.n, ts e2.s, .sl none 4 (itR e2.l)] at x2
        rw [hRE] at x2 sE
        refine ⟨by decide, nthK_intro x2 ?_⟩
        conv => whnf
        refine ⟨_, sE, ?_⟩
        conv => whnf
        rw [hno (nok (by rw [hkJ, hV]; simp))]
        refine ⟨?_, .inl rfl, trivial⟩
        conv => whnf
        exact zend
      | true =>
        rw [hV] at sE
        obtain ⟨v0, v1, v2, hl3, kv0, kv1, kv2⟩ := kinds3 (kindsB_iff.1 hV).2
        have z0 : (itR e2.l)[0]? = some (iR v0) := by rw [hl3]; exact congrArg some (itC_eq _)
        have z1 : (itR e2.l)[1]? = some (iR v1) := by rw [hl3]; exact congrArg some (itC_eq _)
        have z2 : (itR e2.l)[2]? = some (iR v2) := by rw [hl3]; exact congrArg some (itC_eq _)
        have hrJ : refJ X = ⟨e0.s, e1.s, (v0.n, v1.n, v2.n), e3.s, e4.n⟩ := by unfold refJ; rw [g2]; unfold g; rw [hl5, hl3]; rfl
        obtain ⟨RE, hRE⟩ : ∃ RE, itR e2.l = RE := ⟨_, rfl⟩
        change RX[2]? = some [i64 e2.k, i64 e2.n, ts e2.s, .sl none 4 (itR e2.l)] at x2
        rw [hRE] at x2 sE z0 z1 z2
        refine ⟨by decide, nthK_intro x2 ?_⟩
        conv => whnf
        refine ⟨_, sE, ?_⟩
        conv => whnf
        refine ⟨by decide, nthK_intro x2 ?_⟩
        conv => whnf
        refine ⟨by decide, nthK_intro x0 ?_⟩
        conv => whnf
        refine ⟨by decide, nthK_intro x1 ?_⟩
        conv => whnf
        refine ⟨by decide, nthK_intro z0 ?_⟩
        conv => whnf
        refine ⟨by decide, nthK_intro z1 ?_⟩
        conv => whnf
        refine ⟨by decide, nthK_intro z2 ?_⟩
        conv => whnf
        refine ⟨by decide, nthK_intro x3 ?_⟩
        conv => whnf
        refine ⟨by decide, nthK_intro x4 ?_⟩
        conv => whnf
        have htl : ((y.l.take j).map fun x => jC (refJ x)).length = j := by rw [List.length_map, List.length_take]; omega
        refine ⟨htl, by rw [htl]; show (j + 1) * 80 ≤ _; omega, by rw [htl]; show j + 1 ≤ _; omega, ?_⟩
        conv => whnf
        refine Nx.intro ⟨j + 1, hlt, fun z hz => (htm z hz).elim (hj2 z) (fun h => by rw [h, hkJ, hE, hV]; rfl)⟩ (by dsimp only; omega) ?_
        dsimp only
        rw [htk, hrJ]
        refine Wk.intro [] rfl (fun p hp => by cases hp) ⟨.same rfl (by exact rfl), .same rfl (by exact rfl), .same rfl trivial, .same rfl trivial, .same (congrArg i64 (by rw [wrap_i64 _ (by omega) (by omega)]; rfl)) trivial, trivial⟩
          ⟨⟨rfl, .inl ⟨rfl, zM_lt _⟩⟩, ⟨rfl, .inl ⟨rfl, mj_lt _ _ rfl _ _ _ _ _ _ _ _ _ _ _⟩⟩, ⟨rfl, .inl ⟨congrArg (fun z => some (Blk.tok 7 z)) (congrArg (· + 1) htl), trivial⟩⟩, trivial⟩
  obtain rfl : j = y.l.length := by have := of_decide_eq_false h1; omega
  rw [List.take_length] at hj2 ⊢
  have hB : okM i = true := hOK2.2 ⟨rfl, hEs, hPs, hj2⟩
  rw [hB] at hD
  obtain ⟨M, hM⟩ : ∃ M, mayM ⟨a.n, b.n, c.n, d'.n, e'.n, f.n, q.l.map refE, u.n, v.n, D, y.l.map refJ⟩ = M := ⟨_, rfl⟩
  rw [hM] at hm hD
  rw [List.map_map, List.map_map] at hm
  refine ⟨_, hm, ?_⟩
  conv => whnf
  cases M with
  | false =>
    rw [if_neg (by simp)] at hD
    rw [hD]
    conv => whnf
    refine ⟨?_, .inl rfl, trivial⟩
    conv => whnf
    exact zend
  | true =>
    rw [if_pos ⟨rfl, rfl, rfl⟩] at hD
    rw [hD]
    unfold mC
    dsimp only
    rw [List.map_map, List.map_map]
    conv => whnf
    refine ⟨?_, .inl rfl, trivial⟩
    conv => whnf
    exact .inl rfl
end Go.AW.Ml
