/- Vectors: the document's shares; the law of what Vecs come to. -/
import Derived.Test.YtjlbhhcjghlfiaaV18
set_option linter.unusedVariables false
set_option linter.unusedSimpArgs false
namespace Go.AW.Vec
open Go Go.AW Go.Proofs
set_option maxRecDepth 10000
set_option pp.maxSteps 600
theorem valD_mill (n : Nat) : valD (0 :: 0 :: 0 :: digs n) = 1000 * n := by
  simp only [valD, valD_digs]; omega
theorem mill_dg (n : Nat) : Dg (0 :: 0 :: 0 :: digs n) := by
  intro d hd
  simp only [List.mem_cons] at hd
  rcases hd with rfl | rfl | rfl | hd
  · decide
  · decide
  · decide
  · exact digs_lt n d hd
theorem share_is {a b s : Nat} (hb : 0 < b) (hab : a ≤ b) (h1 : s * b ≤ 1000 * a) (h2 : s = 1000 ∨ 1000 * a < (s + 1) * b) : (s : Int) = shareV (a : Int) (b : Int) := by
  unfold shareV
  rw [if_neg (by omega), if_neg (by omega)]
  have e : (1000 * (a : Int)) / (b : Int) = ((1000 * a / b : Nat) : Int) := by push_cast; rfl
  rw [e]
  congr 1
  rcases h2 with rfl | h2
  · have : a = b := by omega
    subst this
    rw [Nat.mul_div_cancel _ hb]
  · symm
    apply Nat.div_eq_of_lt_le
    · exact h1
    · exact h2
theorem less_any (x : List Nat) (n : Nat) (hx : Dg x) (hxl : x.length ≤ 1000) (hn : n < 10 ^ 200) : FCv Try.prog 29 [digT x, digT (digs n)] (tb (decide (valD x < n))) := by
  have := less_law x (digs n) hxl (digs_short hn)
  rwa [lessD_val hx (digs_lt n), valD_digs] at this

theorem rshare_law (a b : V) (ha : okV a) (hb : okV b) : FCv Try.prog 20 [vT a, vT b] (i64 (sharesV a b)) := by
  refine FCv_of_awp (fn := Try.f20) (c := bodyC Try.f20) Try.func20 rfl (of_decide_eq_true rfl) [] ?_
  conv => whnf
  refine ⟨_, rmay_law a, ?_⟩
  conv => whnf
  unfold sharesV
  cases hma : mayV a with
  | false =>
    conv => whnf
    exact .inl rfl
  | true =>
  conv => whnf
  refine ⟨_, rmay_law b, ?_⟩
  conv => whnf
  cases hmb : mayV b with
  | false =>
    conv => whnf
    exact .inl rfl
  | true =>
  conv => whnf
  refine loop_intro (fun q : Fin 4 => ⟨[(2, .ptr 0 0 0), (3, .ptr 1 0 0), (5, i64 (upTo a b q.val)), (6, i64 q.val)], [(0, .own 3 [vR a]), (1, .own 3 [vR b])], 67, 2, []⟩) (fun q => 3 - q.val) 0 ?_ ?_
  · refine Wk.intro [] rfl (fun p hp => by cases hp) ⟨.same rfl (by exact rfl), .same rfl (by exact rfl), .same rfl trivial, .same rfl trivial, trivial⟩
      ⟨⟨rfl, .inl ⟨rfl, vR_lt _ _⟩⟩, ⟨rfl, .inl ⟨rfl, vR_lt _ _⟩⟩, trivial⟩
  intro i
  conv => whnf
  refine br_intro (fun h => ?_) (fun h => ?_)
  · rw [h]
    have h3 : i.val < 3 := by have := of_decide_eq_true h; omega
    have pa := mayV_cmp hma i.val
    have pb := mayV_cmp hmb i.val
    obtain ⟨oa1, oa2⟩ := cmp_ok ha i.val
    obtain ⟨ob1, ob2⟩ := cmp_ok hb i.val
    conv => whnf
    refine ⟨⟨by omega, by omega⟩, ?_⟩
    conv => whnf
    refine nthK_intro (vR_get a i.val h3) ?_
    conv => whnf
    refine ⟨⟨by omega, by omega⟩, ?_⟩
    conv => whnf
    refine nthK_intro (vR_get b i.val h3) ?_
    conv => whnf
    refine br_intro (fun h => ?_) (fun h => ?_)
    · rw [h]
      have hab := of_decide_eq_true h
      have hs : (1000 : Int) = shareV (cmp a i.val) (cmp b i.val) := by unfold shareV; rw [if_pos hab]
      conv => whnf
      refine br_intro (fun h => ?_) (fun h => ?_)
      · rw [h]
        have hgt := of_decide_eq_true h
        conv => whnf
        refine Nx.intro ⟨i.val + 1, by omega⟩ (by simp only; omega) ?_
        refine Wk.intro [] rfl (fun p hp => by cases hp) ⟨.same rfl (by exact rfl), .same rfl (by exact rfl), .same ?_ trivial, .same ?_ trivial, trivial⟩
          ⟨⟨rfl, .inl ⟨rfl, vR_lt _ _⟩⟩, ⟨rfl, .inl ⟨rfl, vR_lt _ _⟩⟩, trivial⟩
        · refine i64_cong ?_
          show 1000 = mxI (upTo a b i.val) (shareV (cmp a i.val) (cmp b i.val))
          rw [← hs]; unfold mxI; rw [if_pos hgt]
        · exact i64_cong (i64w (by simp only; omega) (by simp only; omega) (by simp only; omega))
      · rw [h]
        have hgt := of_decide_eq_false h
        conv => whnf
        refine Nx.intro ⟨i.val + 1, by omega⟩ (by simp only; omega) ?_
        refine Wk.intro [] rfl (fun p hp => by cases hp) ⟨.same rfl (by exact rfl), .same rfl (by exact rfl), .same ?_ trivial, .same ?_ trivial, trivial⟩
          ⟨⟨rfl, .inl ⟨rfl, vR_lt _ _⟩⟩, ⟨rfl, .inl ⟨rfl, vR_lt _ _⟩⟩, trivial⟩
        · refine i64_cong ?_
          show upTo a b i.val = mxI (upTo a b i.val) (shareV (cmp a i.val) (cmp b i.val))
          rw [← hs]; unfold mxI; rw [if_neg hgt]
        · exact i64_cong (i64w (by simp only; omega) (by simp only; omega) (by simp only; omega))
    · rw [h]
      have hab := of_decide_eq_false h
      conv => whnf
      refine ⟨⟨by omega, by omega⟩, ?_⟩
      conv => whnf
      refine nthK_intro (vR_get b i.val h3) ?_
      conv => whnf
      refine br_intro (fun h => ?_) (fun h => ?_)
      · rw [h]
        have hbp := of_decide_eq_true h
        obtain ⟨x, hx⟩ := Int.eq_ofNat_of_zero_le pa
        obtain ⟨y, hy⟩ := Int.eq_ofNat_of_zero_le pb
        have ofx := of_law (cmp a i.val) ⟨oa1, oa2⟩
        have ofy := of_law (cmp b i.val) ⟨ob1, ob2⟩
        rw [show (cmp a i.val).natAbs = x by omega] at ofx
        rw [show (cmp b i.val).natAbs = y by omega] at ofy
        have hxy : x ≤ y := by omega
        have hy0 : 0 < y := by omega
        have hx20 : (digs x).length ≤ 20 := digs_len 20 x (Nat.lt_of_le_of_lt (show x ≤ 9223372036854775808 by omega) (by decide))
        conv => whnf
        refine ⟨⟨by omega, by omega⟩, ?_⟩
        conv => whnf
        refine nthK_intro (vR_get a i.val h3) ?_
        conv => whnf
        refine ⟨_, ofx, ?_⟩
        conv => whnf
        refine ⟨rfl, ?_, ?_, ?_⟩
        · rw [digR_len]
          show (3 + (digs x).length) * 8 ≤ _
          omega
        · rw [digR_len]
          show 3 + (digs x).length ≤ _
          omega
        conv => whnf
        refine ⟨⟨by omega, by omega⟩, ?_⟩
        conv => whnf
        refine nthK_intro (vR_get b i.val h3) ?_
        conv => whnf
        refine ⟨_, ofy, ?_⟩
        conv => whnf
        refine loop_intro (fun q : {s : Nat // s * y ≤ 1000 * x ∧ s ≤ 1000} => ⟨[(2, .ptr 0 0 0), (3, .ptr 1 0 0), (5, i64 (upTo a b i.val)), (6, i64 i.val), (7, i64 (q.1 : Int)), (8, digT (0 :: 0 :: 0 :: digs x)), (9, digT (digs y)), (10, digT (digs (q.1 * y)))],
          [(0, .own 3 [vR a]), (1, .own 3 [vR b])], 67, 2, []⟩) (fun q => 1000 - q.1) ⟨0, by omega, by omega⟩ ?_ ?_
        · refine Wk.intro [] rfl (fun p hp => by cases hp) ⟨.same rfl (by exact rfl), .same rfl (by exact rfl), .same rfl trivial, .same rfl trivial, .same rfl trivial, .inr (.inr (.inr (.inr ⟨_, _, _, rfl, rfl⟩))), .same rfl trivial, .inr (.inr (.inr (.inr ⟨_, _, _, rfl, by rw [Nat.zero_mul]; rfl⟩))), trivial⟩
            ⟨⟨rfl, .inl ⟨rfl, vR_lt _ _⟩⟩, ⟨rfl, .inl ⟨rfl, vR_lt _ _⟩⟩, trivial⟩
        rintro ⟨s, hs1, hs2⟩
        dsimp only
        have bnd : s * y + y < 10 ^ 200 := by
          have : s * y ≤ 1000 * y := Nat.mul_le_mul_right _ hs2
          exact small200 (by omega)
        have pl := plus_n (s * y) y (by omega) (by omega)
        have ls := less_any (0 :: 0 :: 0 :: digs x) (s * y + y) (mill_dg x) (by simp only [List.length_cons]; omega) bnd
        rw [valD_mill] at ls
        conv => whnf
        refine br_intro (fun h => ?_) (fun h => ?_)
        · rw [h]
          have hlt : s < 1000 := by have h' : (s : Int) < 1000 := of_decide_eq_true h; omega
          conv => whnf
          refine ⟨_, pl, ?_⟩
          conv => whnf
          refine ⟨_, ls, ?_⟩
          conv => whnf
          by_cases hm : 1000 * x < s * y + y
          · rw [decide_eq_true hm]
            have hse : (s : Int) = shareV (cmp a i.val) (cmp b i.val) := by
              rw [hx, hy]; exact share_is hy0 hxy hs1 (.inr (by rw [Nat.add_mul]; omega))
            conv => whnf
            refine br_intro (fun h => ?_) (fun h => ?_)
            · rw [h]
              have hgt := of_decide_eq_true h
              conv => whnf
              refine Nx.intro ⟨i.val + 1, by omega⟩ (by simp only; omega) ?_
              refine Wk.intro [] rfl (fun p hp => by cases hp) ⟨.same rfl (by exact rfl), .same rfl (by exact rfl), .same ?_ trivial, .same ?_ trivial, trivial⟩
                ⟨⟨rfl, .inl ⟨rfl, vR_lt _ _⟩⟩, ⟨rfl, .inl ⟨rfl, vR_lt _ _⟩⟩, trivial⟩
              · refine i64_cong ?_
                show (s : Int) = mxI (upTo a b i.val) (shareV (cmp a i.val) (cmp b i.val))
                rw [← hse]; unfold mxI; rw [if_pos hgt]
              · exact i64_cong (i64w (by simp only; omega) (by simp only; omega) (by simp only; omega))
            · rw [h]
              have hgt := of_decide_eq_false h
              conv => whnf
              refine Nx.intro ⟨i.val + 1, by omega⟩ (by simp only; omega) ?_
              refine Wk.intro [] rfl (fun p hp => by cases hp) ⟨.same rfl (by exact rfl), .same rfl (by exact rfl), .same ?_ trivial, .same ?_ trivial, trivial⟩
                ⟨⟨rfl, .inl ⟨rfl, vR_lt _ _⟩⟩, ⟨rfl, .inl ⟨rfl, vR_lt _ _⟩⟩, trivial⟩
              · refine i64_cong ?_
                show upTo a b i.val = mxI (upTo a b i.val) (shareV (cmp a i.val) (cmp b i.val))
                rw [← hse]; unfold mxI; rw [if_neg hgt]
              · exact i64_cong (i64w (by simp only; omega) (by simp only; omega) (by simp only; omega))
          · rw [decide_eq_false hm]
            conv => whnf
            refine ⟨_, pl, ?_⟩
            conv => whnf
            refine Nx.intro ⟨s + 1, by rw [Nat.add_mul]; omega, by omega⟩ (by simp only; omega) ?_
            refine Wk.intro [] rfl (fun p hp => by cases hp) ⟨.same rfl (by exact rfl), .same rfl (by exact rfl), .same rfl trivial, .same rfl trivial, .same ?_ trivial, .same rfl trivial, .same rfl trivial, .same ?_ trivial, trivial⟩
              ⟨⟨rfl, .inl ⟨rfl, vR_lt _ _⟩⟩, ⟨rfl, .inl ⟨rfl, vR_lt _ _⟩⟩, trivial⟩
            · exact i64_cong (i64w (by simp only; omega) (by simp only; omega) (by simp only; omega))
            · exact congrArg (fun z => digT (digs z)) (by simp only [Nat.add_mul]; omega)
        · rw [h]
          have hge : s = 1000 := by have h' : ¬ (s : Int) < 1000 := of_decide_eq_false h; omega
          have hse : (s : Int) = shareV (cmp a i.val) (cmp b i.val) := by
            rw [hx, hy]; exact share_is hy0 hxy hs1 (.inl hge)
          conv => whnf
          refine br_intro (fun h => ?_) (fun h => ?_)
          · rw [h]
            have hgt := of_decide_eq_true h
            conv => whnf
            refine Nx.intro ⟨i.val + 1, by omega⟩ (by simp only; omega) ?_
            refine Wk.intro [] rfl (fun p hp => by cases hp) ⟨.same rfl (by exact rfl), .same rfl (by exact rfl), .same ?_ trivial, .same ?_ trivial, trivial⟩
              ⟨⟨rfl, .inl ⟨rfl, vR_lt _ _⟩⟩, ⟨rfl, .inl ⟨rfl, vR_lt _ _⟩⟩, trivial⟩
            · refine i64_cong ?_
              show (s : Int) = mxI (upTo a b i.val) (shareV (cmp a i.val) (cmp b i.val))
              rw [← hse]; unfold mxI; rw [if_pos hgt]
            · exact i64_cong (i64w (by simp only; omega) (by simp only; omega) (by simp only; omega))
          · rw [h]
            have hgt := of_decide_eq_false h
            conv => whnf
            refine Nx.intro ⟨i.val + 1, by omega⟩ (by simp only; omega) ?_
            refine Wk.intro [] rfl (fun p hp => by cases hp) ⟨.same rfl (by exact rfl), .same rfl (by exact rfl), .same ?_ trivial, .same ?_ trivial, trivial⟩
              ⟨⟨rfl, .inl ⟨rfl, vR_lt _ _⟩⟩, ⟨rfl, .inl ⟨rfl, vR_lt _ _⟩⟩, trivial⟩
            · refine i64_cong ?_
              show upTo a b i.val = mxI (upTo a b i.val) (shareV (cmp a i.val) (cmp b i.val))
              rw [← hse]; unfold mxI; rw [if_neg hgt]
            · exact i64_cong (i64w (by simp only; omega) (by simp only; omega) (by simp only; omega))
      · rw [h]
        have hbp := of_decide_eq_false h
        have hs : (0 : Int) = shareV (cmp a i.val) (cmp b i.val) := by unfold shareV; rw [if_neg hab, if_pos (by omega)]
        conv => whnf
        refine br_intro (fun h => ?_) (fun h => ?_)
        · rw [h]
          have hgt := of_decide_eq_true h
          conv => whnf
          refine Nx.intro ⟨i.val + 1, by omega⟩ (by simp only; omega) ?_
          refine Wk.intro [] rfl (fun p hp => by cases hp) ⟨.same rfl (by exact rfl), .same rfl (by exact rfl), .same ?_ trivial, .same ?_ trivial, trivial⟩
            ⟨⟨rfl, .inl ⟨rfl, vR_lt _ _⟩⟩, ⟨rfl, .inl ⟨rfl, vR_lt _ _⟩⟩, trivial⟩
          · refine i64_cong ?_
            show 0 = mxI (upTo a b i.val) (shareV (cmp a i.val) (cmp b i.val))
            rw [← hs]; unfold mxI; rw [if_pos hgt]
          · exact i64_cong (i64w (by simp only; omega) (by simp only; omega) (by simp only; omega))
        · rw [h]
          have hgt := of_decide_eq_false h
          conv => whnf
          refine Nx.intro ⟨i.val + 1, by omega⟩ (by simp only; omega) ?_
          refine Wk.intro [] rfl (fun p hp => by cases hp) ⟨.same rfl (by exact rfl), .same rfl (by exact rfl), .same ?_ trivial, .same ?_ trivial, trivial⟩
            ⟨⟨rfl, .inl ⟨rfl, vR_lt _ _⟩⟩, ⟨rfl, .inl ⟨rfl, vR_lt _ _⟩⟩, trivial⟩
          · refine i64_cong ?_
            show upTo a b i.val = mxI (upTo a b i.val) (shareV (cmp a i.val) (cmp b i.val))
            rw [← hs]; unfold mxI; rw [if_neg hgt]
          · exact i64_cong (i64w (by simp only; omega) (by simp only; omega) (by simp only; omega))
  · rw [h]
    have h3 : i.val = 3 := by have := of_decide_eq_false h; omega
    conv => whnf
    refine .inl (i64_cong ?_)
    rw [h3]; rfl

theorem VecDoes_law (a b : V) (ha : okV a) (hb : okV b) : FCv Try.prog 3 [vT a, vT b] (tb true) := by
  refine FCv_of_awp (fn := Try.f3) (c := bodyC Try.f3) Try.func3 rfl (of_decide_eq_true rfl) [] ?_
  conv => whnf
  refine ⟨_, awake_law, ?_⟩
  conv => whnf
  refine ⟨_, add_law a b ha hb, ?_⟩
  conv => whnf
  refine ⟨_, radd_law a b ha hb, ?_⟩
  conv => whnf
  refine ⟨_, sub_law a b ha hb, ?_⟩
  conv => whnf
  refine ⟨_, rsub_law a b ha hb, ?_⟩
  conv => whnf
  refine ⟨vV (totV [1] [a, b]), vV (totV [1] [a, b]), rfl, rfl, eqPure _ _ _ _ ?_⟩
  rw [eqV_self]
  conv => whnf
  rw [beq_self_eq_true]
  conv => whnf
  refine ⟨vV (difV a b), vV (difV a b), rfl, rfl, eqPure _ _ _ _ ?_⟩
  rw [eqV_self]
  conv => whnf
  rw [beq_self_eq_true]
  conv => whnf
  refine ⟨_, may_law a, ?_⟩
  conv => whnf
  refine ⟨_, rmay_law a, ?_⟩
  conv => whnf
  rw [beq_self_eq_true]
  conv => whnf
  refine ⟨_, fits_law a b, ?_⟩
  conv => whnf
  refine ⟨_, rfits_law a b, ?_⟩
  conv => whnf
  rw [beq_self_eq_true]
  conv => whnf
  refine ⟨_, Share_law a b ha hb, ?_⟩
  conv => whnf
  refine ⟨_, rshare_law a b ha hb, ?_⟩
  conv => whnf
  refine .inl (congrArg tb ?_)
  exact beq_self_eq_true _
end Go.AW.Vec
