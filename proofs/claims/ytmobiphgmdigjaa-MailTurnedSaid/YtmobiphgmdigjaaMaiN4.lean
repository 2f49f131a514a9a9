import Derived.Test.YtmobiphgmdigjaaMaiN3
/- Mails: their bytes, walked. -/
set_option linter.unusedVariables false
set_option linter.unusedSimpArgs false
namespace Go.AW.Ml
open Go Go.AW Go.AW.Wir Go.AW.Cm Go.Proofs
set_option maxRecDepth 10000
set_option pp.maxSteps 60

theorem mnum (n : Int) : FCv Try.prog 18 [i64 n] (.agg (eN n)) := by
  refine FCv_of_awp (fn := Try.f18) (c := bodyC Try.f18) Try.func18 rfl (of_decide_eq_true rfl) [] ?_
  conv => whnf
  exact .inr (.inr (.inr ⟨.inl rfl, .inl rfl, .inl rfl, .inr (.inl ⟨rfl, 4, rfl⟩), trivial⟩))
theorem mstr (s : List UInt8) : FCv Try.prog 19 [ts s] (.agg (eS s)) := by
  refine FCv_of_awp (fn := Try.f19) (c := bodyC Try.f19) Try.func19 rfl (of_decide_eq_true rfl) [] ?_
  conv => whnf
  exact .inr (.inr (.inr ⟨.inl rfl, .inl rfl, .inl rfl, .inr (.inl ⟨rfl, 4, rfl⟩), trivial⟩))
theorem mrow (l : List (List T)) : FCv Try.prog 17 [.sl none 4 l] (.agg (eL l)) := by
  refine FCv_of_awp (fn := Try.f17) (c := bodyC Try.f17) Try.func17 rfl (of_decide_eq_true rfl) [] ?_
  conv => whnf
  exact .inl rfl
theorem mrow0 : FCv Try.prog 17 [.lit (.slice none 0 0)] (.agg [i64 3, i64 0, ts [], .lit (.slice none 0 0)]) := by
  refine FCv_of_awp (fn := Try.f17) (c := bodyC Try.f17) Try.func17 rfl (of_decide_eq_true rfl) [] ?_
  conv => whnf
  exact .inl rfl
/-- The cells of parts. -/
abbrev eE (x : Entry) : List T := eL [eN x.term, eS x.data]
abbrev eJ (x : Job) : List T := eL [eS x.name, eS x.tenant, eV x.v, eS x.node, eN x.status]
theorem itR_ent (l : List Entry) : itR (l.map entI) = l.map eE := by unfold itR; rw [List.map_map]; rfl
theorem itR_job (l : List Job) : itR (l.map jobI) = l.map eJ := by unfold itR; rw [List.map_map]; rfl
theorem itR_str (l : List (List UInt8)) : itR (l.map strI) = l.map eS := by unfold itR; rw [List.map_map]; rfl
theorem itC_row (l : List It) : itC (rowI l) = eL (itR l) := itC_eq _
theorem itT_mail (m : Mail) : itT (itemM m) = .agg (eL [eN m.kind, eN m.term, eN m.a, eN m.b, eN m.c, eN m.d, eL (m.l.map eE), eN m.si, eN m.st, eL ((chunks m.sd).map eS), eL (m.j.map eJ)]) := by
  rw [← itR_ent, ← itR_job, ← itR_str, ← itC_row, ← itC_row, ← itC_row]
  unfold itT itemM
  rw [itC_row]
  rfl
theorem encodeM (m : Mail) (h : inM m) : FCv Try.prog 20 [.agg (eL [eN m.kind, eN m.term, eN m.a, eN m.b, eN m.c, eN m.d, eL (m.l.map eE), eN m.si, eN m.st, eL ((chunks m.sd).map eS), eL (m.j.map eJ)])] (.tup [.sl none 1 (bytesR (encode (itemM m)).1), i64 (encode (itemM m)).2]) := by
  rw [← itT_mail]
  exact encode_law (itemM m) (in_mail h)
theorem rencodeM (m : Mail) (h : inM m) : FCv Try.prog 24 [.agg (eL [eN m.kind, eN m.term, eN m.a, eN m.b, eN m.c, eN m.d, eL (m.l.map eE), eN m.si, eN m.st, eL ((chunks m.sd).map eS), eL (m.j.map eJ)])] (.tup [.sl none 1 (bytesR (encode (itemM m)).1), i64 (encode (itemM m)).2]) := by
  rw [← itT_mail]
  exact rencode_law (itemM m) (in_mail h)
theorem e4_lt (x : Nat) (R : List (List T)) : blkLt x (.own 4 [eL R]) := by
  intro row hr c hc
  obtain rfl := List.mem_singleton.1 hr
  simp only [List.mem_cons, List.mem_nil_iff, or_false] at hc
  rcases hc with rfl | rfl | rfl | rfl <;> trivial
/-- A row that is appended to. -/
abbrev eK (id : Nat) (l : List (List T)) : List T := [i64 3, i64 0, ts [], .sl (some id) 4 l]
theorem Nat.lt_of_ble {a b : Nat} (h : Nat.blt a b = true) : a < b := Nat.blt_eq ▸ h
theorem k4_lt (x id : Nat) (h : id < x) (R : List (List T)) : blkLt x (.own 4 [eK id R]) := by
  intro row hr c hc
  obtain rfl := List.mem_singleton.1 hr
  simp only [List.mem_cons, List.mem_nil_iff, or_false] at hc
  rcases hc with rfl | rfl | rfl | rfl
  · trivial
  · trivial
  · trivial
  · exact (Nat.blt_eq ▸ h : Nat.blt id x = true)
theorem nil_own {new : List (Nat × Nat)} {x id : Nat} (h : (id, 4) ∈ new) : rowsLe new x [[i64 3, i64 0, ts [], .lit (.slice none 0 0)]] [eK id []] :=
  ⟨⟨.inl ⟨rfl, trivial⟩, .inl ⟨rfl, trivial⟩, .inl ⟨rfl, trivial⟩, .inr (.inr (.inr (.inl ⟨rfl, id, 4, rfl, h⟩))), trivial⟩, trivial⟩
theorem own_no {new : List (Nat × Nat)} {x id : Nat} (R : List (List T)) : rowsLe new x [eK id R] [eL R] :=
  ⟨⟨.inl ⟨rfl, trivial⟩, .inl ⟨rfl, trivial⟩, .inl ⟨rfl, trivial⟩, .inr (.inr (.inr (.inr ⟨some id, 4, R, rfl, rfl⟩))), trivial⟩, trivial⟩
theorem newK : ∀ p ∈ [(4, 4), (5, 4), (6, 4)], 4 ≤ p.1 ∧ p.1 < 7 ∧ ∀ q ∈ [(4, 4), (5, 4), (6, 4)], q.1 = p.1 → q = p := by decide
theorem hd {r : List UInt8} {n : Nat} (h : n = min r.length 4096) : ByteArray.extract ⟨r.toArray⟩ 0 (Int.toNat (n : Int)) = ⟨(r.take 4096).toArray⟩ := by
  rw [Nam.str_ext, Int.toNat_natCast, List.drop_zero, Nat.sub_zero, h]
  by_cases h4 : r.length ≤ 4096
  · rw [Nat.min_eq_left h4, List.take_length, List.take_of_length_le h4]
  · rw [Nat.min_eq_right (by omega)]
theorem hx {r : List UInt8} {n : Nat} (h : n = min r.length 4096) : ByteArray.extract ⟨r.toArray⟩ (Int.toNat (n : Int)) (ByteArray.size ⟨r.toArray⟩) = ⟨(r.drop 4096).toArray⟩ := by
  rw [Nam.str_tail, h]
  by_cases h4 : r.length ≤ 4096
  · rw [Nat.min_eq_left h4, List.drop_length, List.drop_of_length_le h4]
  · rw [Nat.min_eq_right (by omega)]
theorem menc_law (m : Mail) (hin : inM m) : FCv Try.prog 10 [.agg (mC m)] (.tup [ts (encM m).1, i64 (encM m).2]) := by
  have hm := may_law m hin
  have e := encodeM m hin
  have hy : mayM m = true → encode (itemM m) = (bytesM m, 0) := encode_mail
  have hlen : mayM m = true → m.l.length ≤ 16 ∧ m.sd.length ≤ 65536 ∧ m.j.length ≤ 128 := fun h => by
    obtain ⟨_, _, _, _, _, _, hl, hs, hj⟩ := mayM_iff.1 h
    exact ⟨(mayL_len hl).1, mayS_len hs, (mayJ_len hj).1⟩
  unfold encM
  obtain ⟨M, hM⟩ : ∃ M, mayM m = M := ⟨_, rfl⟩
  rw [hM] at hm hy hlen ⊢
  obtain ⟨BY, hBY⟩ : ∃ BY, bytesM m = BY := ⟨_, rfl⟩
  obtain ⟨EN, hEN⟩ : ∃ EN, encode (itemM m) = EN := ⟨_, rfl⟩
  rw [hBY, hEN] at hy
  rw [hEN] at e
  rw [hBY]
  clear hBY hEN
  obtain ⟨k, t, a, b, c, d, l, si, st, sd, j⟩ := m
  unfold mC at hm ⊢
  dsimp only at hm e hlen ⊢
  have l1 : (l.map fun x => eC x).length = l.length := List.length_map _
  have l2 : (j.map fun x => jC x).length = j.length := List.length_map _
  have g1 : ∀ (i : Nat) (x : Entry), l[i]? = some x → (l.map fun x => eC x)[i]? = some (eC x) := fun i x h => by rw [List.getElem?_map, h]; rfl
  have g2 : ∀ (i : Nat) (x : Job), j[i]? = some x → (j.map fun x => jC x)[i]? = some (jC x) := fun i x h => by rw [List.getElem?_map, h]; rfl
  obtain ⟨RL, hRL⟩ : ∃ RL, (l.map fun x => eC x) = RL := ⟨_, rfl⟩
  obtain ⟨RJ, hRJ⟩ : ∃ RJ, (j.map fun x => jC x) = RJ := ⟨_, rfl⟩
  rw [hRL] at l1 g1 hm ⊢
  rw [hRJ] at l2 g2 hm ⊢
  clear hRL hRJ hM
  refine FCv_of_awp (fn := Try.f10) (c := bodyC Try.f10) Try.func10 rfl (of_decide_eq_true rfl) [] ?_
  conv => whnf
  refine ⟨_, hm, ?_⟩
  conv => whnf
  cases M with
  | false =>
    conv => whnf
    exact ⟨.inl rfl, .inl rfl, trivial⟩
  | true =>
  conv => whnf
  refine ⟨_, mrow0, ?_⟩
  conv => whnf
  refine ⟨_, mrow0, ?_⟩
  conv => whnf
  refine ⟨_, mrow0, ?_⟩
  conv => whnf
  rw [l1]
  obtain ⟨hl, hsd, hj⟩ := hlen rfl
  rw [hy rfl] at e
  refine loop_intro (fun y : { i : Nat // i ≤ l.length } =>
    ⟨[(1, .ptr 0 0 0), (4, .ptr 1 0 0), (5, .ptr 2 0 0), (6, .ptr 3 0 0), (22, .sl none 2 RL), (23, i64 (l.length : Nat)), (24, i64 (y.1 : Nat))], [(0, .own 11 [[i64 k, i64 t, i64 a, i64 b, i64 c, i64 d, .sl none 2 RL, i64 si, i64 st, ts sd, .sl none 7 RJ]]), (1, .own 4 [eK 4 ((l.take y.1).map eE)]), (2, .own 4 [eK 5 []]), (3, .own 4 [eK 6 []]), (4, .tok 4 y.1), (5, .tok 4 0), (6, .tok 4 0)], 141, 7, []⟩) (fun y => l.length - y.1) ⟨0, Nat.zero_le _⟩ ?_ ?_
  · refine Wk.intro [(4, 4), (5, 4), (6, 4)] rfl ?_ ⟨.same rfl (by exact rfl), .same rfl (by exact rfl), .same rfl (by exact rfl), .same rfl (by exact rfl), .same rfl trivial, .same rfl trivial, .same rfl trivial, trivial⟩
      ⟨⟨rfl, .inl ⟨rfl, mail_lt _ _ _ _ _ _ _ _ _ _ _ _⟩⟩, ⟨rfl, .inr (.inr ⟨4, _, _, rfl, rfl, ?_⟩)⟩, ⟨rfl, .inr (.inr ⟨4, _, _, rfl, rfl, ?_⟩)⟩, ⟨rfl, .inr (.inr ⟨4, _, _, rfl, rfl, ?_⟩)⟩, ⟨rfl, .inr (.inl ⟨4, by simp, rfl⟩)⟩, ⟨rfl, .inr (.inl ⟨4, by simp, rfl⟩)⟩, ⟨rfl, .inr (.inl ⟨4, by simp, rfl⟩)⟩, trivial⟩
    · exact newK
    all_goals exact nil_own (by simp)
  rintro ⟨i, hi⟩
  dsimp only at hi ⊢
  conv => whnf
  refine br_intro (fun h1 => ?_) (fun h1 => ?_) <;> (rw [h1]; conv => whnf)
  · have hlt : i < l.length := by have := of_decide_eq_true h1; omega
    refine ⟨by omega, nthK_intro (g1 i l[i] (List.getElem?_eq_getElem hlt)) ?_⟩
    conv => whnf
    refine ⟨_, mnum _, ?_⟩
    conv => whnf
    refine ⟨_, mstr _, ?_⟩
    conv => whnf
    refine ⟨_, mrow _, ?_⟩
    conv => whnf
    have htl : ((l.take i).map eE).length = i := by rw [List.length_map, List.length_take]; omega
    have htk : (l.take (i + 1)).map eE = (l.take i).map eE ++ [eE l[i]] := by rw [List.take_add_one, List.getElem?_eq_getElem hlt, List.map_append]; rfl
    refine ⟨htl, by rw [htl]; show (i + 1) * 56 ≤ _; omega, by rw [htl]; show i + 1 ≤ _; omega, ?_⟩
    conv => whnf
    refine Nx.intro ⟨i + 1, hlt⟩ (by dsimp only; omega) ?_
    dsimp only
    rw [htk]
    refine Wk.intro [] rfl (fun p hp => by cases hp) ⟨.same rfl (by exact rfl), .same rfl (by exact rfl), .same rfl (by exact rfl), .same rfl (by exact rfl), .same rfl trivial, .same rfl trivial, .same (congrArg i64 (by rw [wrap_i64 _ (by omega) (by omega)]; rfl)) trivial, trivial⟩
      ⟨⟨rfl, .inl ⟨rfl, mail_lt _ _ _ _ _ _ _ _ _ _ _ _⟩⟩, ⟨rfl, .inl ⟨rfl, k4_lt _ _ (Nat.lt_of_ble rfl) _⟩⟩, ⟨rfl, .inl ⟨rfl, k4_lt _ _ (Nat.lt_of_ble rfl) _⟩⟩, ⟨rfl, .inl ⟨rfl, k4_lt _ _ (Nat.lt_of_ble rfl) _⟩⟩, ⟨rfl, .inl ⟨congrArg (fun z => some (Blk.tok 4 z)) (congrArg (· + 1) htl), trivial⟩⟩, ⟨rfl, .inl ⟨rfl, trivial⟩⟩, ⟨rfl, .inl ⟨rfl, trivial⟩⟩, trivial⟩
  obtain rfl : i = l.length := by have := of_decide_eq_false h1; omega
  rw [List.take_length]
  refine loop_intro (fun y : { p : List (List UInt8) × List UInt8 // chunks sd = p.1 ++ chunks p.2 ∧ p.2.length ≤ 65536 } =>
    ⟨[(1, .ptr 0 0 0), (4, .ptr 1 0 0), (5, .ptr 2 0 0), (6, .ptr 3 0 0), (9, ts y.1.2)], [(0, .own 11 [[i64 k, i64 t, i64 a, i64 b, i64 c, i64 d, .sl none 2 RL, i64 si, i64 st, ts sd, .sl none 7 RJ]]), (1, .own 4 [eL (l.map eE)]), (2, .own 4 [eK 5 (y.1.1.map eS)]), (3, .own 4 [eK 6 []]), (5, .tok 4 (y.1.1.map eS).length), (6, .tok 4 0)], 141, 7, []⟩) (fun y => y.1.2.length) ⟨([], sd), rfl, hsd⟩ ?_ ?_
  · refine Wk.intro [] rfl (fun p hp => by cases hp) ⟨.same rfl (by exact rfl), .same rfl (by exact rfl), .same rfl (by exact rfl), .same rfl (by exact rfl), .same rfl trivial, trivial⟩
      ⟨⟨rfl, .inl ⟨rfl, mail_lt _ _ _ _ _ _ _ _ _ _ _ _⟩⟩, ⟨rfl, .inr (.inr ⟨4, _, _, rfl, rfl, own_no _⟩)⟩, ⟨rfl, .inl ⟨rfl, k4_lt _ _ (Nat.lt_of_ble rfl) _⟩⟩, ⟨rfl, .inl ⟨rfl, k4_lt _ _ (Nat.lt_of_ble rfl) _⟩⟩, ⟨rfl, .inl ⟨rfl, trivial⟩⟩, ⟨rfl, .inl ⟨rfl, trivial⟩⟩, trivial⟩
  rintro ⟨⟨pre, r⟩, h2, h4⟩
  dsimp only at h2 h4 ⊢
  conv => whnf
  rw [emptyD]
  by_cases hr : r = []
  rotate_left
  · rw [decide_eq_false hr]
    conv => whnf
    rw [sizeD]
    obtain ⟨n, hn, hn2⟩ : ∃ n : Nat, mnI (r.length : Int) 4096 = (n : Int) ∧ n = min r.length 4096 := ⟨min r.length 4096, by unfold mnI; split <;> omega, rfl⟩
    rw [hn]
    have hpos : 0 < r.length := List.length_pos_iff.2 hr
    refine ⟨by omega, ?_⟩
    conv => whnf
    refine ⟨⟨by omega, by omega⟩, ?_⟩
    conv => whnf
    rw [hd (n := n) hn2]
    refine ⟨_, mstr _, ?_⟩
    conv => whnf
    have hlen := congrArg List.length h2
    have hcl := chunks_len sd
    rw [List.length_append, chunks_cons hr, List.length_cons] at hlen
    have hpl : (pre.map eS).length = pre.length := List.length_map _
    refine ⟨rfl, by rw [hpl]; show (pre.length + 1) * 56 ≤ _; omega, by rw [hpl]; show pre.length + 1 ≤ _; omega, ?_⟩
    conv => whnf
    refine ⟨by omega, ?_⟩
    conv => whnf
    refine ⟨⟨by rw [sizeD]; omega, Nat.le_refl _⟩, ?_⟩
    conv => whnf
    rw [hx (n := n) hn2]
    have hpm : (pre ++ [r.take 4096]).map eS = pre.map eS ++ [eS (r.take 4096)] := by rw [List.map_append]; rfl
    refine Nx.intro ⟨(pre ++ [r.take 4096], r.drop 4096), by dsimp only; rw [h2, chunks_cons hr]; simp, by dsimp only; rw [List.length_drop]; omega⟩ (by dsimp only; rw [List.length_drop]; omega) ?_
    dsimp only
    rw [hpm]
    refine Wk.intro [] rfl (fun p hp => by cases hp) ⟨.same rfl (by exact rfl), .same rfl (by exact rfl), .same rfl (by exact rfl), .same rfl (by exact rfl), .same rfl trivial, trivial⟩
      ⟨⟨rfl, .inl ⟨rfl, mail_lt _ _ _ _ _ _ _ _ _ _ _ _⟩⟩, ⟨rfl, .inl ⟨rfl, e4_lt _ _⟩⟩, ⟨rfl, .inl ⟨rfl, k4_lt _ _ (Nat.lt_of_ble rfl) _⟩⟩, ⟨rfl, .inl ⟨rfl, k4_lt _ _ (Nat.lt_of_ble rfl) _⟩⟩, ⟨rfl, .inl ⟨congrArg (fun z => some (Blk.tok 4 z)) (by rw [List.length_append]; rfl), trivial⟩⟩, ⟨rfl, .inl ⟨rfl, trivial⟩⟩, trivial⟩
  subst hr
  rw [decide_eq_true rfl]
  rw [chunks_nil, List.append_nil] at h2
  subst h2
  conv => whnf
  rw [l2]
  refine loop_intro (fun y : { i : Nat // i ≤ j.length } =>
    ⟨[(1, .ptr 0 0 0), (4, .ptr 1 0 0), (5, .ptr 2 0 0), (6, .ptr 3 0 0), (63, .sl none 7 RJ), (64, i64 (j.length : Nat)), (65, i64 (y.1 : Nat))], [(0, .own 11 [[i64 k, i64 t, i64 a, i64 b, i64 c, i64 d, .sl none 2 RL, i64 si, i64 st, ts sd, .sl none 7 RJ]]), (1, .own 4 [eL (l.map eE)]), (2, .own 4 [eL ((chunks sd).map eS)]), (3, .own 4 [eK 6 ((j.take y.1).map eJ)]), (6, .tok 4 y.1)], 141, 7, []⟩) (fun y => j.length - y.1) ⟨0, Nat.zero_le _⟩ ?_ ?_
  · exact Wk.intro [] rfl (fun p hp => by cases hp) ⟨.same rfl (by exact rfl), .same rfl (by exact rfl), .same rfl (by exact rfl), .same rfl (by exact rfl), .same rfl trivial, .same rfl trivial, .same rfl trivial, trivial⟩
      ⟨⟨rfl, .inl ⟨rfl, mail_lt _ _ _ _ _ _ _ _ _ _ _ _⟩⟩, ⟨rfl, .inl ⟨rfl, e4_lt _ _⟩⟩, ⟨rfl, .inr (.inr ⟨4, _, _, rfl, rfl, own_no _⟩)⟩, ⟨rfl, .inl ⟨rfl, k4_lt _ _ (Nat.lt_of_ble rfl) _⟩⟩, ⟨rfl, .inl ⟨rfl, trivial⟩⟩, trivial⟩
  rintro ⟨i, hi'⟩
  dsimp only at hi' ⊢
  conv => whnf
  refine br_intro (fun h1 => ?_) (fun h1 => ?_) <;> (rw [h1]; conv => whnf)
  · have hlt : i < j.length := by have := of_decide_eq_true h1; omega
    refine ⟨by omega, nthK_intro (g2 i j[i] (List.getElem?_eq_getElem hlt)) ?_⟩
    conv => whnf
    refine ⟨_, mstr _, ?_⟩
    conv => whnf
    refine ⟨_, mstr _, ?_⟩
    conv => whnf
    refine ⟨by decide, ?_⟩
    conv => whnf
    refine ⟨_, mnum _, ?_⟩
    conv => whnf
    refine ⟨by decide, ?_⟩
    conv => whnf
    refine ⟨_, mnum _, ?_⟩
    conv => whnf
    refine ⟨by decide, ?_⟩
    conv => whnf
    refine ⟨_, mnum _, ?_⟩
    conv => whnf
    refine ⟨_, mrow _, ?_⟩
    conv => whnf
    refine ⟨_, mstr _, ?_⟩
    conv => whnf
    refine ⟨_, mnum _, ?_⟩
    conv => whnf
    refine ⟨_, mrow _, ?_⟩
    conv => whnf
    have htl : ((j.take i).map eJ).length = i := by rw [List.length_map, List.length_take]; omega
    have htk : (j.take (i + 1)).map eJ = (j.take i).map eJ ++ [eJ j[i]] := by rw [List.take_add_one, List.getElem?_eq_getElem hlt, List.map_append]; rfl
    refine ⟨htl, by rw [htl]; show (i + 1) * 56 ≤ _; omega, by rw [htl]; show i + 1 ≤ _; omega, ?_⟩
    conv => whnf
    refine Nx.intro ⟨i + 1, hlt⟩ (by dsimp only; omega) ?_
    dsimp only
    rw [htk]
    refine Wk.intro [] rfl (fun p hp => by cases hp) ⟨.same rfl (by exact rfl), .same rfl (by exact rfl), .same rfl (by exact rfl), .same rfl (by exact rfl), .same rfl trivial, .same rfl trivial, .same (congrArg i64 (by rw [wrap_i64 _ (by omega) (by omega)]; rfl)) trivial, trivial⟩
      ⟨⟨rfl, .inl ⟨rfl, mail_lt _ _ _ _ _ _ _ _ _ _ _ _⟩⟩, ⟨rfl, .inl ⟨rfl, e4_lt _ _⟩⟩, ⟨rfl, .inl ⟨rfl, e4_lt _ _⟩⟩, ⟨rfl, .inl ⟨rfl, k4_lt _ _ (Nat.lt_of_ble rfl) _⟩⟩, ⟨rfl, .inl ⟨congrArg (fun z => some (Blk.tok 4 z)) (congrArg (· + 1) htl), trivial⟩⟩, trivial⟩
  obtain rfl : i = j.length := by have := of_decide_eq_false h1; omega
  rw [List.take_length]
  refine ⟨_, mnum _, ?_⟩
  conv => whnf
  refine ⟨_, mnum _, ?_⟩
  conv => whnf
  refine ⟨_, mnum _, ?_⟩
  conv => whnf
  refine ⟨_, mnum _, ?_⟩
  conv => whnf
  refine ⟨_, mnum _, ?_⟩
  conv => whnf
  refine ⟨_, mnum _, ?_⟩
  conv => whnf
  refine ⟨_, mnum _, ?_⟩
  conv => whnf
  refine ⟨_, mnum _, ?_⟩
  conv => whnf
  refine ⟨_, mrow _, ?_⟩
  conv => whnf
  refine ⟨_, e, ?_⟩
  conv => whnf
  refine ⟨_, ⟨rfl, rfl⟩, ?_⟩
  conv => whnf
  exact ⟨.inl rfl, .inl rfl, trivial⟩
end Go.AW.Ml

/- Mails: the reference's bytes, walked. -/
set_option linter.unusedVariables false
set_option linter.unusedSimpArgs false
namespace Go.AW.Ml
open Go Go.AW Go.AW.Wir Go.AW.Cm Go.Proofs
set_option maxRecDepth 10000
set_option pp.maxSteps 60

theorem st4_lt (x id : Nat) (h : id < x) (R : List (List T)) : ltT x (.sl (some id) 4 R) := (Nat.blt_eq ▸ h : Nat.blt id x = true)
theorem hcut {r : List UInt8} {p n : Nat} (h : n = min (p + 4096) r.length) : ByteArray.extract ⟨r.toArray⟩ (Int.toNat (p : Int)) (Int.toNat (n : Int)) = ⟨((r.drop p).take 4096).toArray⟩ := by
  rw [Nam.str_ext, Int.toNat_natCast, Int.toNat_natCast, h]
  by_cases h4 : p + 4096 ≤ r.length
  · rw [Nat.min_eq_left h4, Nat.add_sub_cancel_left]
  · rw [Nat.min_eq_right (by omega), List.take_of_length_le (by rw [List.length_drop]; omega), List.take_of_length_le (by rw [List.length_drop]; omega)]
theorem mrenc_law (m : Mail) (hin : inM m) : FCv Try.prog 11 [.agg (mC m)] (.tup [ts (encM m).1, i64 (encM m).2]) := by
  have hm := rmay_law m hin
  have e := rencodeM m hin
  have hy : mayM m = true → encode (itemM m) = (bytesM m, 0) := encode_mail
  have hlen : mayM m = true → m.l.length ≤ 16 ∧ m.sd.length ≤ 65536 ∧ m.j.length ≤ 128 := fun h => by
    obtain ⟨_, _, _, _, _, _, hl, hs, hj⟩ := mayM_iff.1 h
    exact ⟨(mayL_len hl).1, mayS_len hs, (mayJ_len hj).1⟩
  unfold encM
  obtain ⟨M, hM⟩ : ∃ M, mayM m = M := ⟨_, rfl⟩
  rw [hM] at hm hy hlen ⊢
  obtain ⟨BY, hBY⟩ : ∃ BY, bytesM m = BY := ⟨_, rfl⟩
  obtain ⟨EN, hEN⟩ : ∃ EN, encode (itemM m) = EN := ⟨_, rfl⟩
  rw [hBY, hEN] at hy
  rw [hEN] at e
  rw [hBY]
  clear hBY hEN
  obtain ⟨k, t, a, b, c, d, l, si, st, sd, j⟩ := m
  unfold mC at hm ⊢
  dsimp only at hm e hlen ⊢
  have l1 : (l.map fun x => eC x).length = l.length := List.length_map _
  have l2 : (j.map fun x => jC x).length = j.length := List.length_map _
  have g1 : ∀ (i : Nat) (x : Entry), l[i]? = some x → (l.map fun x => eC x)[i]? = some (eC x) := fun i x h => by rw [List.getElem?_map, h]; rfl
  have g2 : ∀ (i : Nat) (x : Job), j[i]? = some x → (j.map fun x => jC x)[i]? = some (jC x) := fun i x h => by rw [List.getElem?_map, h]; rfl
  obtain ⟨RL, hRL⟩ : ∃ RL, (l.map fun x => eC x) = RL := ⟨_, rfl⟩
  obtain ⟨RJ, hRJ⟩ : ∃ RJ, (j.map fun x => jC x) = RJ := ⟨_, rfl⟩
  rw [hRL] at l1 g1 hm ⊢
  rw [hRJ] at l2 g2 hm ⊢
  clear hRL hRJ hM
  refine FCv_of_awp (fn := Try.f11) (c := bodyC Try.f11) Try.func11 rfl (of_decide_eq_true rfl) [] ?_
  conv => whnf
  refine ⟨_, hm, ?_⟩
  conv => whnf
  cases M with
  | false =>
    conv => whnf
    exact ⟨.inl rfl, .inl rfl, trivial⟩
  | true =>
  conv => whnf
  obtain ⟨hl, hsd, hj⟩ := hlen rfl
  rw [hy rfl] at e
  refine loop_intro (fun y : { i : Nat // i ≤ l.length } =>
    ⟨[(1, .ptr 0 0 0), (4, .sl (some 1) 4 ((l.take y.1).map eE)), (5, i64 (y.1 : Nat))], [(0, .own 11 [[i64 k, i64 t, i64 a, i64 b, i64 c, i64 d, .sl none 2 RL, i64 si, i64 st, ts sd, .sl none 7 RJ]]), (1, .tok 4 y.1)], 163, 2, []⟩) (fun y => l.length - y.1) ⟨0, Nat.zero_le _⟩ ?_ ?_
  · exact Wk.intro [] rfl (fun p hp => by cases hp) ⟨.same rfl (by exact rfl), .same rfl (by exact rfl), .same rfl trivial, trivial⟩
      ⟨⟨rfl, .inl ⟨rfl, mail_lt _ _ _ _ _ _ _ _ _ _ _ _⟩⟩, ⟨rfl, .inl ⟨rfl, trivial⟩⟩, trivial⟩
  rintro ⟨i, hi⟩
  dsimp only at hi ⊢
  conv => whnf
  rw [l1]
  refine br_intro (fun h1 => ?_) (fun h1 => ?_) <;> (rw [h1]; conv => whnf)
  · have hlt : i < l.length := by have := of_decide_eq_true h1; omega
    refine ⟨by omega, nthK_intro (g1 i l[i] (List.getElem?_eq_getElem hlt)) ?_⟩
    conv => whnf
    refine ⟨_, num2 _, ?_⟩
    conv => whnf
    refine ⟨by omega, nthK_intro (g1 i l[i] (List.getElem?_eq_getElem hlt)) ?_⟩
    conv => whnf
    refine ⟨_, str2 _, ?_⟩
    conv => whnf
    refine ⟨_, row2 _, ?_⟩
    conv => whnf
    have htl : ((l.take i).map eE).length = i := by rw [List.length_map, List.length_take]; omega
    have htk : (l.take (i + 1)).map eE = (l.take i).map eE ++ [eE l[i]] := by rw [List.take_add_one, List.getElem?_eq_getElem hlt, List.map_append]; rfl
    refine ⟨htl, by rw [htl]; show (i + 1) * 56 ≤ _; omega, by rw [htl]; show i + 1 ≤ _; omega, ?_⟩
    conv => whnf
    refine Nx.intro ⟨i + 1, hlt⟩ (by dsimp only; omega) ?_
    dsimp only
    rw [htk]
    exact Wk.intro [] rfl (fun p hp => by cases hp) ⟨.same rfl (by exact rfl), .same rfl (by exact rfl), .same (congrArg i64 (by rw [wrap_i64 _ (by omega) (by omega)]; rfl)) trivial, trivial⟩
      ⟨⟨rfl, .inl ⟨rfl, mail_lt _ _ _ _ _ _ _ _ _ _ _ _⟩⟩, ⟨rfl, .inl ⟨congrArg (fun z => some (Blk.tok 4 z)) (congrArg (· + 1) htl), trivial⟩⟩, trivial⟩
  obtain rfl : i = l.length := by have := of_decide_eq_false h1; omega
  rw [List.take_length]
  refine loop_intro (fun y : { q : List (List UInt8) × Nat // chunks sd = q.1 ++ chunks (sd.drop q.2) ∧ q.2 ≤ 70000 } =>
    ⟨[(1, .ptr 0 0 0), (4, .sl none 4 (l.map eE)), (6, .sl (some 2) 4 (y.1.1.map eS)), (7, i64 (y.1.2 : Nat))], [(0, .own 11 [[i64 k, i64 t, i64 a, i64 b, i64 c, i64 d, .sl none 2 RL, i64 si, i64 st, ts sd, .sl none 7 RJ]]), (2, .tok 4 (y.1.1.map eS).length)], 163, 3, []⟩) (fun y => 70000 - y.1.2) ⟨([], 0), rfl, by omega⟩ ?_ ?_
  · exact Wk.intro [] rfl (fun p hp => by cases hp) ⟨.same rfl (by exact rfl), .inr (.inr (.inr (.inr ⟨some 1, 4, _, rfl, rfl⟩))), .same rfl (by exact rfl), .same rfl trivial, trivial⟩
      ⟨⟨rfl, .inl ⟨rfl, mail_lt _ _ _ _ _ _ _ _ _ _ _ _⟩⟩, ⟨rfl, .inl ⟨rfl, trivial⟩⟩, trivial⟩
  rintro ⟨⟨pre, p⟩, h2, h3⟩
  dsimp only at h2 h3 ⊢
  conv => whnf
  rw [sizeD]
  refine br_intro (fun h1 => ?_) (fun h1 => ?_) <;> (rw [h1]; conv => whnf)
  · have hlt : p < sd.length := by have := of_decide_eq_true h1; omega
    obtain ⟨N, hN, hN2⟩ : ∃ n : Nat, (p : Int) + 4096 = n ∧ n = p + 4096 := ⟨p + 4096, by omega, rfl⟩
    rw [sizeD, wrap_i64 ((p : Int) + 4096) (by omega) (by omega), hN]
    refine br_intro (fun h9 => ?_) (fun h9 => ?_) <;> (rw [h9]; conv => whnf)
    · have h9 := of_decide_eq_true h9
      rw [sizeD]
      obtain ⟨n, hn, hn2⟩ : ∃ n : Nat, (sd.length : Int) = n ∧ n = sd.length := ⟨_, rfl, rfl⟩
      rw [hn]
      refine ⟨by omega, ?_⟩
      conv => whnf
      refine ⟨by omega, ?_⟩
      conv => whnf
      refine ⟨⟨by omega, by first | omega | (rw [sizeD]; omega)⟩, ?_⟩
      conv => whnf
      rw [hcut (p := p) (n := n) (by omega)]
      refine ⟨_, str2 _, ?_⟩
      conv => whnf
      have hlen := congrArg List.length h2
      have hcl := chunks_len sd
      have hr : sd.drop p ≠ [] := by intro e; have := congrArg List.length e; rw [List.length_drop, List.length_nil] at this; omega
      rw [List.length_append, chunks_cons hr, List.length_cons] at hlen
      have hpl : (pre.map eS).length = pre.length := List.length_map _
      refine ⟨rfl, by rw [hpl]; show (pre.length + 1) * 56 ≤ _; omega, by rw [hpl]; show pre.length + 1 ≤ _; omega, ?_⟩
      conv => whnf
      rw [wrap_i64 ((p : Int) + 4096) (by omega) (by omega), hN]
      have hpm : (pre ++ [(sd.drop p).take 4096]).map eS = pre.map eS ++ [eS ((sd.drop p).take 4096)] := by rw [List.map_append]; rfl
      refine Nx.intro ⟨(pre ++ [(sd.drop p).take 4096], p + 4096), by dsimp only; rw [h2, chunks_cons hr, List.drop_drop]; simp, by dsimp only; omega⟩ (by dsimp only; omega) ?_
      dsimp only
      rw [hpm]
      refine Wk.intro [] rfl (fun p hp => by cases hp) ⟨.same rfl (by exact rfl), .same rfl trivial, .same rfl (by exact rfl), .same (congrArg (fun z : Nat => i64 (z : Int)) hN2) trivial, trivial⟩
        ⟨⟨rfl, .inl ⟨rfl, mail_lt _ _ _ _ _ _ _ _ _ _ _ _⟩⟩, ⟨rfl, .inl ⟨congrArg (fun z => some (Blk.tok 4 z)) (by rw [List.length_append]; rfl), trivial⟩⟩, trivial⟩
    · have h9 := of_decide_eq_false h9
      obtain ⟨n, hn2⟩ : ∃ n : Nat, n = N := ⟨N, rfl⟩
      rw [← hn2]
      refine ⟨by omega, ?_⟩
      conv => whnf
      refine ⟨by omega, ?_⟩
      conv => whnf
      refine ⟨⟨by omega, by first | omega | (rw [sizeD]; omega)⟩, ?_⟩
      conv => whnf
      rw [hcut (p := p) (n := n) (by omega)]
      refine ⟨_, str2 _, ?_⟩
      conv => whnf
      have hlen := congrArg List.length h2
      have hcl := chunks_len sd
      have hr : sd.drop p ≠ [] := by intro e; have := congrArg List.length e; rw [List.length_drop, List.length_nil] at this; omega
      rw [List.length_append, chunks_cons hr, List.length_cons] at hlen
      have hpl : (pre.map eS).length = pre.length := List.length_map _
      refine ⟨rfl, by rw [hpl]; show (pre.length + 1) * 56 ≤ _; omega, by rw [hpl]; show pre.length + 1 ≤ _; omega, ?_⟩
      conv => whnf
      rw [wrap_i64 ((p : Int) + 4096) (by omega) (by omega), hN]
      have hpm : (pre ++ [(sd.drop p).take 4096]).map eS = pre.map eS ++ [eS ((sd.drop p).take 4096)] := by rw [List.map_append]; rfl
      refine Nx.intro ⟨(pre ++ [(sd.drop p).take 4096], p + 4096), by dsimp only; rw [h2, chunks_cons hr, List.drop_drop]; simp, by dsimp only; omega⟩ (by dsimp only; omega) ?_
      dsimp only
      rw [hpm]
      refine Wk.intro [] rfl (fun p hp => by cases hp) ⟨.same rfl (by exact rfl), .same rfl trivial, .same rfl (by exact rfl), .same (congrArg (fun z : Nat => i64 (z : Int)) hN2) trivial, trivial⟩
        ⟨⟨rfl, .inl ⟨rfl, mail_lt _ _ _ _ _ _ _ _ _ _ _ _⟩⟩, ⟨rfl, .inl ⟨congrArg (fun z => some (Blk.tok 4 z)) (by rw [List.length_append]; rfl), trivial⟩⟩, trivial⟩
  have hp : sd.length ≤ p := by have := of_decide_eq_false h1; omega
  rw [List.drop_of_length_le hp, chunks_nil, List.append_nil] at h2
  subst h2
  refine loop_intro (fun y : { i : Nat // i ≤ j.length } =>
    ⟨[(1, .ptr 0 0 0), (4, .sl none 4 (l.map eE)), (6, .sl none 4 ((chunks sd).map eS)), (9, .sl (some 3) 4 ((j.take y.1).map eJ)), (10, i64 (y.1 : Nat))], [(0, .own 11 [[i64 k, i64 t, i64 a, i64 b, i64 c, i64 d, .sl none 2 RL, i64 si, i64 st, ts sd, .sl none 7 RJ]]), (3, .tok 4 y.1)], 163, 4, []⟩) (fun y => j.length - y.1) ⟨0, Nat.zero_le _⟩ ?_ ?_
  · exact Wk.intro [] rfl (fun p hp => by cases hp) ⟨.same rfl (by exact rfl), .same rfl trivial, .inr (.inr (.inr (.inr ⟨some 2, 4, _, rfl, rfl⟩))), .same rfl (by exact rfl), .same rfl trivial, trivial⟩
      ⟨⟨rfl, .inl ⟨rfl, mail_lt _ _ _ _ _ _ _ _ _ _ _ _⟩⟩, ⟨rfl, .inl ⟨rfl, trivial⟩⟩, trivial⟩
  rintro ⟨i, hi'⟩
  dsimp only at hi' ⊢
  conv => whnf
  rw [l2]
  refine br_intro (fun h9 => ?_) (fun h9 => ?_) <;> (rw [h9]; conv => whnf)
  · have hlt : i < j.length := by have := of_decide_eq_true h9; omega
    refine ⟨by omega, nthK_intro (g2 i j[i] (List.getElem?_eq_getElem hlt)) ?_⟩
    conv => whnf
    refine ⟨by decide, ?_⟩
    conv => whnf
    refine ⟨_, num2 _, ?_⟩
    conv => whnf
    refine ⟨by decide, ?_⟩
    conv => whnf
    refine ⟨_, num2 _, ?_⟩
    conv => whnf
    refine ⟨by decide, ?_⟩
    conv => whnf
    refine ⟨_, num2 _, ?_⟩
    conv => whnf
    refine ⟨_, row2 _, ?_⟩
    conv => whnf
    refine ⟨_, str2 _, ?_⟩
    conv => whnf
    refine ⟨_, str2 _, ?_⟩
    conv => whnf
    refine ⟨_, str2 _, ?_⟩
    conv => whnf
    refine ⟨_, num2 _, ?_⟩
    conv => whnf
    refine ⟨_, row2 _, ?_⟩
    conv => whnf
    have htl : ((j.take i).map eJ).length = i := by rw [List.length_map, List.length_take]; omega
    have htk : (j.take (i + 1)).map eJ = (j.take i).map eJ ++ [eJ j[i]] := by rw [List.take_add_one, List.getElem?_eq_getElem hlt, List.map_append]; rfl
    refine ⟨htl, by rw [htl]; show (i + 1) * 56 ≤ _; omega, by rw [htl]; show i + 1 ≤ _; omega, ?_⟩
    conv => whnf
    refine Nx.intro ⟨i + 1, hlt⟩ (by dsimp only; omega) ?_
    dsimp only
    rw [htk]
    exact Wk.intro [] rfl (fun p hp => by cases hp) ⟨.same rfl (by exact rfl), .same rfl trivial, .same rfl trivial, .same rfl (by exact rfl), .same (congrArg i64 (by rw [wrap_i64 _ (by omega) (by omega)]; rfl)) trivial, trivial⟩
      ⟨⟨rfl, .inl ⟨rfl, mail_lt _ _ _ _ _ _ _ _ _ _ _ _⟩⟩, ⟨rfl, .inl ⟨congrArg (fun z => some (Blk.tok 4 z)) (congrArg (· + 1) htl), trivial⟩⟩, trivial⟩
  obtain rfl : i = j.length := by have := of_decide_eq_false h9; omega
  rw [List.take_length]
  refine ⟨_, num2 _, ?_⟩
  conv => whnf
  refine ⟨_, num2 _, ?_⟩
  conv => whnf
  refine ⟨_, num2 _, ?_⟩
  conv => whnf
  refine ⟨_, num2 _, ?_⟩
  conv => whnf
  refine ⟨_, num2 _, ?_⟩
  conv => whnf
  refine ⟨_, num2 _, ?_⟩
  conv => whnf
  refine ⟨_, row2 _, ?_⟩
  conv => whnf
  refine ⟨_, num2 _, ?_⟩
  conv => whnf
  refine ⟨_, num2 _, ?_⟩
  conv => whnf
  refine ⟨_, row2 _, ?_⟩
  conv => whnf
  refine ⟨_, row2 _, ?_⟩
  conv => whnf
  refine ⟨_, row2 _, ?_⟩
  conv => whnf
  refine ⟨_, e, ?_⟩
  conv => whnf
  refine ⟨_, ⟨rfl, rfl⟩, ?_⟩
  conv => whnf
  exact ⟨.inl rfl, .inl rfl, trivial⟩
end Go.AW.Ml
