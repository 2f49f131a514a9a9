import Derived.Test.YthkhmgifikknhaaCmdC6
import Derived.Test.YthkhmgifikknhaaAw27
/- Commands: the first calls, and the laws that read nothing unknown. -/
set_option linter.unusedVariables false
set_option linter.unusedSimpArgs false
namespace Go.AW.Cm
open Go Go.AW Go.AW.Wir Go.Proofs
set_option maxRecDepth 10000
set_option pp.maxSteps 60

def c1 : Cmd := ⟨6, [97], [], (0, 0, 0), 0⟩
def c2 : Cmd := ⟨6, [97, 32, 98], [], (0, 0, 0), 0⟩
def c3 : Cmd := ⟨8, [97], [], (0, 0, 0), 0⟩
def r1 : Rep := ⟨12, [], (0, 0, 0), 5⟩
def s1 : List UInt8 := [3, 1, 5, 1, 1, 12, 2, 1, 1, 97, 2, 0, 3, 1, 3, 1, 0, 1, 0, 1, 0, 1, 0]
def s2 : List UInt8 := [3, 1, 4, 1, 1, 24, 2, 0, 3, 1, 3, 1, 0, 1, 0, 1, 0, 1, 1, 10]
theorem c1_in : inCmd c1 := ⟨⟨by decide, by decide⟩, by decide, by decide, ⟨⟨by decide, by decide⟩, ⟨by decide, by decide⟩, ⟨by decide, by decide⟩⟩, ⟨by decide, by decide⟩⟩
theorem c2_in : inCmd c2 := ⟨⟨by decide, by decide⟩, by decide, by decide, ⟨⟨by decide, by decide⟩, ⟨by decide, by decide⟩, ⟨by decide, by decide⟩⟩, ⟨by decide, by decide⟩⟩
theorem c3_in : inCmd c3 := ⟨⟨by decide, by decide⟩, by decide, by decide, ⟨⟨by decide, by decide⟩, ⟨by decide, by decide⟩, ⟨by decide, by decide⟩⟩, ⟨by decide, by decide⟩⟩
theorem r1_in : inRep r1 := ⟨⟨by decide, by decide⟩, ⟨⟨by decide, by decide⟩, ⟨by decide, by decide⟩, ⟨by decide, by decide⟩⟩, ⟨by decide, by decide⟩⟩
theorem e1 : encC c1 = (s1, 0) := by unfold encC; rw [show mayC c1 = true by decide +kernel, if_pos rfl, show bytesC c1 = s1 by decide +kernel]
theorem e2 : encC c2 = ([], 4) := by unfold encC; rw [show mayC c2 = false by decide +kernel, if_neg (by decide)]
theorem e3 : encR r1 = (s2, 0) := by unfold encR; rw [show mayR r1 = true by decide +kernel, if_pos rfl, show bytesRp r1 = s2 by decide +kernel]
/-- Bytes that a command has are read. -/
theorem dec_law2 {s : List UInt8} {c : Cmd} (hs : s.length ≤ 140737488351232) (hc : inCmd c) (h : encC c = (s, 0)) : FCv Try.prog 17 [ts s] (.tup [cT c, i64 0]) := by
  have h1 := encC_item hc h
  have h2 := encC_dec hc h
  have h3 := dec_law1 s hs (by
    intro _
    rw [h1]
    dsimp only
    rw [toC_item (by have := (mayC_iff.1 (encC_may h).1).1; exact ⟨by omega, by omega⟩)]
    simp)
  rw [h2] at h3
  exact h3
theorem unp_law2 {s : List UInt8} {c : Rep} (hs : s.length ≤ 140737488351232) (hc : inRep c) (h : encR c = (s, 0)) : FCv Try.prog 19 [ts s] (.tup [rT c, i64 0]) := by
  have h1 := encR_item hc h
  have h2 := encR_dec hc h
  have h3 := unp_law1 s hs (by
    intro _
    rw [h1]
    dsimp only
    rw [toR_item (by have := mayR_iff.1 (encR_may h).1; exact ⟨by omega, by omega⟩)]
    simp)
  rw [h2] at h3
  exact h3
theorem awake_law : FCv Try.prog 10 [] (tb true) := by
  have k1 := cenc_law c1 c1_in
  have k2 := cenc_law c2 c2_in
  have k3 := dec_law2 (s := s1) (by decide) c1_in e1
  have k4 := pack_law r1 r1_in
  have k5 := unp_law2 (s := s2) (by decide) r1_in e3
  have k6 := asks_law c3 c3_in
  rw [e1] at k1
  rw [e2] at k2
  rw [e3] at k4
  rw [show asksC c3 = true by decide +kernel] at k6
  obtain ⟨S1, hS1⟩ : ∃ S, s1 = S := ⟨_, rfl⟩
  obtain ⟨S2, hS2⟩ : ∃ S, s2 = S := ⟨_, rfl⟩
  rw [hS1] at k1 k3
  rw [hS2] at k4 k5
  unfold cT c1 c2 c3 at *
  unfold rT r1 at *
  dsimp only at k1 k2 k3 k4 k5 k6
  obtain ⟨A, hA⟩ : ∃ A : List UInt8, [97] = A := ⟨_, rfl⟩
  have k3' : FCv Try.prog 17 [ts S1] (.tup [.agg [i64 6, ts A, ts [], i64 0, i64 0, i64 0, i64 0], i64 0]) := by rw [← hA]; exact k3
  clear k3
  refine FCv_of_awp (fn := Try.f10) (c := bodyC Try.f10) Try.func10 rfl (of_decide_eq_true rfl) [] ?_
  conv => whnf
  refine ⟨_, k1, ?_⟩
  conv => whnf
  refine ⟨_, k2, ?_⟩
  conv => whnf
  refine ⟨_, k3', ?_⟩
  conv => whnf
  refine ⟨_, k4, ?_⟩
  conv => whnf
  refine ⟨_, k5, ?_⟩
  conv => whnf
  rw [show (ByteArray.toList ⟨S1.toArray⟩ == ByteArray.toList ⟨#[3, 1, 5, 1, 1, 12, 2, 1, 1, 97, 2, 0, 3, 1, 3, 1, 0, 1, 0, 1, 0, 1, 0]⟩) = true from by rw [← hS1]; exact beq_self_eq_true _]
  conv => whnf
  rw [show (ByteArray.toList ⟨A.toArray⟩ == ByteArray.toList ⟨#[97]⟩) = true from by rw [← hA]; exact beq_self_eq_true _]
  conv => whnf
  refine ⟨_, k6, ?_⟩
  conv => whnf
  exact .inl rfl

theorem CmdEncodes_law (c : Cmd) (h : inCmd c) : FCv Try.prog 3 [cT c] (tb true) := by
  have k1 := cenc_law c h
  have k2 := renc_law c h
  have k3 := may_law c h
  have k4 := rmay_law c h
  have k5 := asks_law c h
  have k6 := rasks_law c h
  obtain ⟨⟨b, e⟩, hE⟩ : ∃ p, encC c = p := ⟨_, rfl⟩
  obtain ⟨M, hM⟩ : ∃ p, mayC c = p := ⟨_, rfl⟩
  obtain ⟨A, hA⟩ : ∃ p, asksC c = p := ⟨_, rfl⟩
  rw [hE] at k1 k2
  rw [hM] at k3 k4
  rw [hA] at k5 k6
  unfold cT at *
  dsimp only at k1 k2
  refine FCv_of_awp (fn := Try.f3) (c := bodyC Try.f3) Try.func3 rfl (of_decide_eq_true rfl) [] ?_
  conv => whnf
  refine ⟨_, awake_law, ?_⟩
  conv => whnf
  refine ⟨_, k1, ?_⟩
  conv => whnf
  refine ⟨_, k2, ?_⟩
  conv => whnf
  refine ⟨_, k3, ?_⟩
  conv => whnf
  refine ⟨_, k4, ?_⟩
  conv => whnf
  rw [show (M == M) = true from beq_self_eq_true M]
  conv => whnf
  refine ⟨_, k5, ?_⟩
  conv => whnf
  refine ⟨_, k6, ?_⟩
  conv => whnf
  rw [show (A == A) = true from beq_self_eq_true A]
  conv => whnf
  rw [strD, decide_eq_true rfl]
  conv => whnf
  exact .inl (congrArg tb (bq rfl))
theorem CmdPacks_law (c : Rep) (h : inRep c) : FCv Try.prog 5 [rT c] (tb true) := by
  have k1 := pack_law c h
  have k2 := rpack_law c h
  obtain ⟨⟨b, e⟩, hE⟩ : ∃ p, encR c = p := ⟨_, rfl⟩
  rw [hE] at k1 k2
  unfold rT at *
  dsimp only at k1 k2
  refine FCv_of_awp (fn := Try.f5) (c := bodyC Try.f5) Try.func5 rfl (of_decide_eq_true rfl) [] ?_
  conv => whnf
  refine ⟨_, awake_law, ?_⟩
  conv => whnf
  refine ⟨_, k1, ?_⟩
  conv => whnf
  refine ⟨_, k2, ?_⟩
  conv => whnf
  rw [strD, decide_eq_true rfl]
  conv => whnf
  exact .inl (congrArg tb (bq rfl))
theorem vec0 (v : V) : eqV v (0, 0, 0) = true ↔ v = (0, 0, 0) := eqV_iff
theorem CmdAsks_law (c : Cmd) (h : inCmd c) : FCv Try.prog 9 [cT c] (tb true) := by
  have k1 := cenc_law c h
  have k3 := may_law c h
  have k5 := asks_law c h
  have hE : encC c = if mayC c = true then (bytesC c, 0) else ([], 4) := rfl
  have hA : asksC c = (mayC c && decide (8 ≤ c.op)) := rfl
  have hm := @mayC_iff c
  have hb : bytesC c ≠ [] := by unfold bytesC; simp
  obtain ⟨B, hB⟩ : ∃ B, bytesC c = B := ⟨_, rfl⟩
  rw [hB] at hE hb
  obtain ⟨M, hM⟩ : ∃ p, mayC c = p := ⟨_, rfl⟩
  rw [hM] at hE hA k3 hm
  rw [hA] at k5
  rw [hE] at k1
  obtain ⟨op, nm, o, v, n⟩ := c
  obtain ⟨x, y, z⟩ := v
  unfold cT at *
  cases M with
  | false =>
    change FCv _ _ _ (.tup [ts [], i64 4]) at k1
    obtain ⟨Z, hZ⟩ : ∃ Z : List UInt8, [] = Z := ⟨_, rfl⟩
    rw [hZ] at k1
    change FCv _ _ _ (tb false) at k5
    refine FCv_of_awp (fn := Try.f9) (c := bodyC Try.f9) Try.func9 rfl (of_decide_eq_true rfl) [] ?_
    conv => whnf
    refine ⟨_, awake_law, ?_⟩
    conv => whnf
    refine ⟨_, k1, ?_⟩
    conv => whnf
    refine ⟨_, k3, ?_⟩
    conv => whnf
    rw [emptyD, decide_eq_true hZ.symm]
    conv => whnf
    refine ⟨_, k5, ?_⟩
    conv => whnf
    exact .inl rfl
  | true =>
    change FCv _ _ _ (.tup [ts B, i64 0]) at k1
    obtain ⟨A, hAA⟩ : ∃ A, decide (8 ≤ op) = A := ⟨_, rfl⟩
    have k5' : FCv Try.prog 15 [.agg [i64 op, ts nm, ts o, i64 x, i64 y, i64 z, i64 n]] (tb A) := by rw [← hAA]; exact k5
    refine FCv_of_awp (fn := Try.f9) (c := bodyC Try.f9) Try.func9 rfl (of_decide_eq_true rfl) [] ?_
    conv => whnf
    refine ⟨_, awake_law, ?_⟩
    conv => whnf
    refine ⟨_, k1, ?_⟩
    conv => whnf
    refine ⟨_, k3, ?_⟩
    conv => whnf
    rw [emptyD, decide_eq_false hb]
    conv => whnf
    refine ⟨_, k5', ?_⟩
    conv => whnf
    cases A with
    | false =>
      conv => whnf
      exact .inl rfl
    | true =>
      conv => whnf
      have hop := of_decide_eq_true hAA
      obtain ⟨⟨g1, g2⟩, g3, g4, g5, g6⟩ := hm.1 rfl
      have g4' : o = [] := by
        have : ¬ two ⟨op, nm, o, (x, y, z), n⟩ := by unfold two; dsimp only; omega
        unfold ofB at g4
        rw [if_neg this] at g4
        exact of_decide_eq_true g4
      have g5' : ((x, y, z) : V) = (0, 0, 0) := by
        have : ¬ much ⟨op, nm, o, (x, y, z), n⟩ := by unfold much; dsimp only; omega
        unfold vB at g5
        rw [if_neg this] at g5
        exact eqV_iff.1 g5
      have g6' : n = 0 := by
        unfold nB at g6
        rw [if_neg (by dsimp only; omega), if_neg (by dsimp only; omega)] at g6
        exact of_decide_eq_true g6
      refine ⟨_, k3, ?_⟩
      conv => whnf
      rw [emptyD, decide_eq_true g4']
      conv => whnf
      refine ⟨vV (x, y, z), vV (0, 0, 0), rfl, rfl, eqPure _ _ (x, y, z) (0, 0, 0) ?_⟩
      rw [eqV_iff.2 g5']
      conv => whnf
      rw [bq g6']
      conv => whnf
      rw [show decide (op ≥ 8) = true from decide_eq_true hop]
      conv => whnf
      exact .inl (congrArg tb (decide_eq_true (by exact g2)))
end Go.AW.Cm

/- Commands and replies compared; unlike ones have unlike bytes. -/
set_option linter.unusedVariables false
set_option linter.unusedSimpArgs false
namespace Go.AW.Cm
open Go Go.AW Go.AW.Wir Go.Proofs
set_option maxRecDepth 10000
set_option pp.maxSteps 60

def sv (l : List UInt8) : Value := .string ⟨l.toArray⟩
def cV (c : Cmd) : List Value := [iv c.op, sv c.name, sv c.of, iv c.v.1, iv c.v.2.1, iv c.v.2.2, iv c.n]
def rV (r : Rep) : List Value := [iv r.e, sv r.s, iv r.v.1, iv r.v.2.1, iv r.v.2.2, iv r.n]
instance : DecidableEq Cmd := fun a b => decidable_of_iff (a.op = b.op ∧ a.name = b.name ∧ a.of = b.of ∧ a.v = b.v ∧ a.n = b.n) ⟨fun h => by cases a; cases b; simp_all, fun h => by subst h; exact ⟨rfl, rfl, rfl, rfl, rfl⟩⟩
instance : DecidableEq Rep := fun a b => decidable_of_iff (a.e = b.e ∧ a.s = b.s ∧ a.v = b.v ∧ a.n = b.n) ⟨fun h => by cases a; cases b; simp_all, fun h => by subst h; exact ⟨rfl, rfl, rfl, rfl⟩⟩
section
variable (w : World)
theorem h_int (d : Nat) (a b : Int) : (Op.equalIn (d + 1) 3 (iv a) (iv b)).run Try.prog w = .ok (a == b) w := run_equalIn_int w d 3 .i64 .i64 a b Try.underlying3
theorem h_i64 (d : Nat) (a b : Int) : (Op.equalIn (d + 1) 2 (iv a) (iv b)).run Try.prog w = .ok (a == b) w := run_equalIn_int w d 2 .i64 .i64 a b Try.underlying2
theorem h_err (d : Nat) (a b : Int) : (Op.equalIn (d + 1) 27 (iv a) (iv b)).run Try.prog w = .ok (a == b) w := run_equalIn_int w d 27 .i64 .i64 a b Try.underlying27
theorem h_str (d : Nat) (a b : List UInt8) : (Op.equalIn (d + 1) 9 (sv a) (sv b)).run Try.prog w = .ok (decide (a = b)) w := by
  rw [← strD]
  exact run_equalIn_string w d 9 _ _ Try.underlying9
theorem h_vec (d : Nat) (a b : V) : (Op.equalIn (d + 2) 23 (.agg (vV a).toArray) (.agg (vV b).toArray)).run Try.prog w = .ok (eqV a b) w :=
  eq_vec w Try.underlying23 (by rfl) (by kernel_rfl) Try.underlying2 a b
theorem p_vec (c : List Value) (o : Nat) : (part 23 c.toArray o).run Try.prog w = .ok (.agg (c.toArray.extract o (o + 3))) w :=
  run_part_arr w Try.underlying23 (i := Try.prog.types[23]) (by rfl) c.toArray o
theorem eqf_cmd (a b : Cmd) : (Op.eqFields 9999 (cV a).toArray (cV b).toArray [{ name := "Op", type := 3, offset := 0, embedded := false, tag := "", pkgPath := "", byteOffset := 0 },
        { name := "Name", type := 9, offset := 1, embedded := false, tag := "", pkgPath := "", byteOffset := 8 },
        { name := "Of", type := 9, offset := 2, embedded := false, tag := "", pkgPath := "", byteOffset := 24 },
        { name := "V", type := 23, offset := 3, embedded := false, tag := "", pkgPath := "", byteOffset := 40 },
        { name := "N", type := 2, offset := 6, embedded := false, tag := "", pkgPath := "", byteOffset := 64 }]).run Try.prog w = .ok (decide (a = b)) w := by
  have e : decide (a = b) = (a.op == b.op && (decide (a.name = b.name) && (decide (a.of = b.of) && (eqV a.v b.v && (a.n == b.n && true))))) := by
    rw [Bool.eq_iff_iff]
    simp only [decide_eq_true_eq, Bool.and_eq_true, beq_iff_eq, eqV_iff, and_true]
    constructor
    · rintro rfl; exact ⟨rfl, rfl, rfl, rfl, rfl⟩
    · rintro ⟨h1, h2, h3, h4, h5⟩; cases a; cases b; simp_all
  rw [e]
  refine eqf w (by decide) (run_part_one w Try.underlying3 rfl rfl) (run_part_one w Try.underlying3 rfl rfl) (h_int w 9998 a.op b.op) ?_
  refine eqf w (by decide) (run_part_one w Try.underlying9 rfl rfl) (run_part_one w Try.underlying9 rfl rfl) (h_str w 9998 a.name b.name) ?_
  refine eqf w (by decide) (run_part_one w Try.underlying9 rfl rfl) (run_part_one w Try.underlying9 rfl rfl) (h_str w 9998 a.of b.of) ?_
  refine eqf w (by decide) (p_vec w _ 3) (p_vec w _ 3) (h_vec w 9997 a.v b.v) ?_
  refine eqf w (by decide) (run_part_one w Try.underlying2 rfl rfl) (run_part_one w Try.underlying2 rfl rfl) (h_i64 w 9998 a.n b.n) ?_
  exact eqf_nil w
theorem eqf_rep (a b : Rep) : (Op.eqFields 9999 (rV a).toArray (rV b).toArray [{ name := "E", type := 27, offset := 0, embedded := false, tag := "", pkgPath := "", byteOffset := 0 },
        { name := "S", type := 9, offset := 1, embedded := false, tag := "", pkgPath := "", byteOffset := 8 },
        { name := "V", type := 23, offset := 2, embedded := false, tag := "", pkgPath := "", byteOffset := 24 },
        { name := "N", type := 2, offset := 5, embedded := false, tag := "", pkgPath := "", byteOffset := 48 }]).run Try.prog w = .ok (decide (a = b)) w := by
  have e : decide (a = b) = (a.e == b.e && (decide (a.s = b.s) && (eqV a.v b.v && (a.n == b.n && true)))) := by
    rw [Bool.eq_iff_iff]
    simp only [decide_eq_true_eq, Bool.and_eq_true, beq_iff_eq, eqV_iff, and_true]
    constructor
    · rintro rfl; exact ⟨rfl, rfl, rfl, rfl⟩
    · rintro ⟨h1, h3, h4, h5⟩; cases a; cases b; simp_all
  rw [e]
  refine eqf w (by decide) (run_part_one w Try.underlying27 rfl rfl) (run_part_one w Try.underlying27 rfl rfl) (h_err w 9998 a.e b.e) ?_
  refine eqf w (by decide) (run_part_one w Try.underlying9 rfl rfl) (run_part_one w Try.underlying9 rfl rfl) (h_str w 9998 a.s b.s) ?_
  refine eqf w (by decide) (p_vec w _ 2) (p_vec w _ 2) (h_vec w 9997 a.v b.v) ?_
  refine eqf w (by decide) (run_part_one w Try.underlying2 rfl rfl) (run_part_one w Try.underlying2 rfl rfl) (h_i64 w 9998 a.n b.n) ?_
  exact eqf_nil w
end
theorem cmdEq (ox oy : Operand) (a b : Cmd) {K : T → Prop} (h : K (tb (decide (a = b)))) : pureA Try.prog (do eqGuard .eql 25 ox oy (.agg (cV a).toArray) (.agg (cV b).toArray); binOp .eql 25 (.agg (cV a).toArray) (.agg (cV b).toArray)) K :=
  pure_eqS Try.underlying25 (by kernel_rfl) (by kernel_rfl) ox oy (cV a) (cV b) (fun w => eqf_cmd w a b) h
theorem cmdNe (ox oy : Operand) (a b : Cmd) {K : T → Prop} (h : K (tb (!decide (a = b)))) : pureA Try.prog (do eqGuard .neq 25 ox oy (.agg (cV a).toArray) (.agg (cV b).toArray); binOp .neq 25 (.agg (cV a).toArray) (.agg (cV b).toArray)) K :=
  pure_neS Try.underlying25 (by kernel_rfl) (by kernel_rfl) ox oy (cV a) (cV b) (fun w => eqf_cmd w a b) h
theorem repEq (ox oy : Operand) (a b : Rep) {K : T → Prop} (h : K (tb (decide (a = b)))) : pureA Try.prog (do eqGuard .eql 34 ox oy (.agg (rV a).toArray) (.agg (rV b).toArray); binOp .eql 34 (.agg (rV a).toArray) (.agg (rV b).toArray)) K :=
  pure_eqS Try.underlying34 (by kernel_rfl) (by kernel_rfl) ox oy (rV a) (rV b) (fun w => eqf_rep w a b) h
theorem repNe (ox oy : Operand) (a b : Rep) {K : T → Prop} (h : K (tb (!decide (a = b)))) : pureA Try.prog (do eqGuard .neq 34 ox oy (.agg (rV a).toArray) (.agg (rV b).toArray); binOp .neq 34 (.agg (rV a).toArray) (.agg (rV b).toArray)) K :=
  pure_neS Try.underlying34 (by kernel_rfl) (by kernel_rfl) ox oy (rV a) (rV b) (fun w => eqf_rep w a b) h
end Go.AW.Cm

/- Commands and replies: unlike ones have unlike bytes. -/
set_option linter.unusedVariables false
set_option linter.unusedSimpArgs false
namespace Go.AW.Cm
open Go Go.AW Go.AW.Wir Go.Proofs
set_option maxRecDepth 10000
set_option pp.maxSteps 60

theorem apart_c {c d : Cmd} (hc : inCmd c) (hd : inCmd d) (h1 : (encC c).2 = 0) (h2 : (encC d).2 = 0) : decide ((encC c).1 = (encC d).1) = decide (c = d) := by
  refine decide_eq_decide.2 ⟨fun h => ?_, fun h => by rw [h]⟩
  have g1 := encC_dec hc (s := (encC c).1) (Prod.ext rfl h1)
  have g2 := encC_dec hd (s := (encC d).1) (Prod.ext rfl h2)
  rw [h, g2] at g1
  exact (congrArg Prod.fst g1).symm
theorem apart_r {c d : Rep} (hc : inRep c) (hd : inRep d) (h1 : (encR c).2 = 0) (h2 : (encR d).2 = 0) : decide ((encR c).1 = (encR d).1) = decide (c = d) := by
  refine decide_eq_decide.2 ⟨fun h => ?_, fun h => by rw [h]⟩
  have g1 := encR_dec hc (s := (encR c).1) (Prod.ext rfl h1)
  have g2 := encR_dec hd (s := (encR d).1) (Prod.ext rfl h2)
  rw [h, g2] at g1
  exact (congrArg Prod.fst g1).symm
theorem apart_cr {c : Cmd} {d : Rep} (hc : inCmd c) (hd : inRep d) (h1 : (encC c).2 = 0) (h2 : (encR d).2 = 0) : (encC c).1 ≠ (encR d).1 := by
  intro h
  have g1 := encC_item hc (s := (encC c).1) (Prod.ext rfl h1)
  have g2 := encR_item hd (s := (encR d).1) (Prod.ext rfl h2)
  rw [h, g2] at g1
  have g3 := congrArg (fun z : It × Int => z.1.l.length) g1
  have e1 : (itemR d).l.length = 4 := rfl
  have e2 : (itemC c).l.length = 5 := rfl
  dsimp only at g3
  omega
theorem CmdApart_law (c d : Cmd) (r q : Rep) (hc : inCmd c) (hd : inCmd d) (hr : inRep r) (hq : inRep q) : FCv Try.prog 7 [cT c, cT d, rT r, rT q] (tb true) := by
  have k1 := cenc_law c hc
  have k2 := cenc_law d hd
  have k3 := pack_law r hr
  have k4 := pack_law q hq
  have p1 := apart_c hc hd
  have p2 := apart_r hr hq
  have p3 := apart_cr hc hr
  obtain ⟨⟨s, e⟩, hE1⟩ : ∃ p, encC c = p := ⟨_, rfl⟩
  obtain ⟨⟨t, f⟩, hE2⟩ : ∃ p, encC d = p := ⟨_, rfl⟩
  obtain ⟨⟨u, g⟩, hE3⟩ : ∃ p, encR r = p := ⟨_, rfl⟩
  obtain ⟨⟨v, h⟩, hE4⟩ : ∃ p, encR q = p := ⟨_, rfl⟩
  rw [hE1] at k1 p1 p3
  rw [hE2] at k2 p1
  rw [hE3] at k3 p2 p3
  rw [hE4] at k4 p2
  dsimp only at k1 k2 k3 k4 p1 p2 p3
  unfold cT at *
  unfold rT at *
  refine FCv_of_awp (fn := Try.f7) (c := bodyC Try.f7) Try.func7 rfl (of_decide_eq_true rfl) [] ?_
  conv => whnf
  refine ⟨_, awake_law, ?_⟩
  conv => whnf
  refine ⟨_, k1, ?_⟩
  conv => whnf
  refine ⟨_, k2, ?_⟩
  conv => whnf
  by_cases z1 : e = 0
  · rw [bq z1]
    conv => whnf
    by_cases z2 : f = 0
    · rw [bq z2]
      conv => whnf
      refine ⟨cV c, cV d, rfl, rfl, cmdEq _ _ c d ?_⟩
      conv => whnf
      rw [strD, p1 z1 z2, show (decide (c = d) == decide (c = d)) = true from beq_self_eq_true _]
      conv => whnf
      refine ⟨_, k3, ?_⟩
      conv => whnf
      refine ⟨_, k4, ?_⟩
      conv => whnf
      by_cases z3 : g = 0
      · rw [bq z3]
        conv => whnf
        by_cases z4 : h = 0
        · rw [bq z4]
          conv => whnf
          refine ⟨rV r, rV q, rfl, rfl, repEq _ _ r q ?_⟩
          conv => whnf
          rw [strD, p2 z3 z4, show (decide (r = q) == decide (r = q)) = true from beq_self_eq_true _]
          conv => whnf
          rw [qq z1]
          conv => whnf
          rw [qq z3]
          conv => whnf
          exact .inl (congrArg tb (by rw [strD, decide_eq_false (p3 z1 z3)]; rfl))
        · rw [bn z4]
          conv => whnf
          rw [qq z1]
          conv => whnf
          rw [qq z3]
          conv => whnf
          exact .inl (congrArg tb (by rw [strD, decide_eq_false (p3 z1 z3)]; rfl))
      · rw [bn z3]
        conv => whnf
        rw [qq z1]
        conv => whnf
        rw [qn z3]
        conv => whnf
        exact .inl rfl
    · rw [bn z2]
      conv => whnf
      refine ⟨_, k3, ?_⟩
      conv => whnf
      refine ⟨_, k4, ?_⟩
      conv => whnf
      by_cases z3 : g = 0
      · rw [bq z3]
        conv => whnf
        by_cases z4 : h = 0
        · rw [bq z4]
          conv => whnf
          refine ⟨rV r, rV q, rfl, rfl, repEq _ _ r q ?_⟩
          conv => whnf
          rw [strD, p2 z3 z4, show (decide (r = q) == decide (r = q)) = true from beq_self_eq_true _]
          conv => whnf
          rw [qq z1]
          conv => whnf
          rw [qq z3]
          conv => whnf
          exact .inl (congrArg tb (by rw [strD, decide_eq_false (p3 z1 z3)]; rfl))
        · rw [bn z4]
          conv => whnf
          rw [qq z1]
          conv => whnf
          rw [qq z3]
          conv => whnf
          exact .inl (congrArg tb (by rw [strD, decide_eq_false (p3 z1 z3)]; rfl))
      · rw [bn z3]
        conv => whnf
        rw [qq z1]
        conv => whnf
        rw [qn z3]
        conv => whnf
        exact .inl rfl
  · rw [bn z1]
    conv => whnf
    refine ⟨_, k3, ?_⟩
    conv => whnf
    refine ⟨_, k4, ?_⟩
    conv => whnf
    by_cases z3 : g = 0
    · rw [bq z3]
      conv => whnf
      by_cases z4 : h = 0
      · rw [bq z4]
        conv => whnf
        refine ⟨rV r, rV q, rfl, rfl, repEq _ _ r q ?_⟩
        conv => whnf
        rw [strD, p2 z3 z4, show (decide (r = q) == decide (r = q)) = true from beq_self_eq_true _]
        conv => whnf
        rw [qn z1]
        conv => whnf
        exact .inl rfl
      · rw [bn z4]
        conv => whnf
        rw [qn z1]
        conv => whnf
        exact .inl rfl
    · rw [bn z3]
      conv => whnf
      rw [qn z1]
      conv => whnf
      exact .inl rfl
end Go.AW.Cm

/- Commands and replies, as arguments. -/
set_option linter.unusedVariables false
set_option linter.unusedSimpArgs false
namespace Go.AW.Cm
open Go Go.AW Go.AW.Wir Go.Proofs
set_option maxRecDepth 10000
set_option pp.maxSteps 60

section
variable {H : Type} {enc : TypeId × Value → H} {w : World}
theorem rd_vec : Rd enc Try.prog w 23 (fun v : V => vR v) inVec := Rd.vec Try.underlying23 (by kernel_rfl) (by kernel_rfl) Try.underlying2
theorem rd_cmd : Rd enc Try.prog w 25 cR inCmd := fun n => match n with
  | 0 => RdN.zero
  | n + 1 => by
    refine RdN.conv (RdN.struct (len := 7) Try.underlying25 (by kernel_rfl)
      (RdFs.cons (sz := 1) rfl (by kernel_rfl) (RdN.of (Rd.int Try.underlying3))
      (RdFs.cons (sz := 1) rfl (by kernel_rfl) (RdN.of (Rd.string Try.underlying9))
      (RdFs.cons (sz := 1) rfl (by kernel_rfl) (RdN.of (Rd.string Try.underlying9))
      (RdFs.cons (sz := 3) rfl (by kernel_rfl) (RdN.of rd_vec)
      (RdFs.cons (sz := 1) rfl (by kernel_rfl) (RdN.of (Rd.int Try.underlying2)) RdFs.nil)))))) ?_
    rintro ⟨op, nm, o, v, n, u⟩ ⟨h1, h2, h3, h4, h5, _⟩
    have e : ∀ b : ByteArray, b.size ≤ reachBytes → b.data.toList.length ≤ 9223372036854775806 := by
      intro b hb
      have : reachBytes = 140737488351232 := rfl
      rw [Array.length_toList]
      have : b.data.size = b.size := rfl
      omega
    exact ⟨⟨op, nm.data.toList, o.data.toList, v, n⟩, ⟨h1, e _ h2, e _ h3, h4, h5⟩, rfl⟩
theorem rd_rep : Rd enc Try.prog w 34 rR inRep := fun n => match n with
  | 0 => RdN.zero
  | n + 1 => by
    refine RdN.conv (RdN.struct (len := 6) Try.underlying34 (by kernel_rfl)
      (RdFs.cons (sz := 1) rfl (by kernel_rfl) (RdN.of (Rd.int Try.underlying27))
      (RdFs.cons (sz := 1) rfl (by kernel_rfl) (RdN.of (Rd.string Try.underlying9))
      (RdFs.cons (sz := 3) rfl (by kernel_rfl) (RdN.of rd_vec)
      (RdFs.cons (sz := 1) rfl (by kernel_rfl) (RdN.of (Rd.int Try.underlying2)) RdFs.nil))))) ?_
    rintro ⟨e, s, v, n, u⟩ ⟨h1, h2, h4, h5, _⟩
    exact ⟨⟨e, s.data.toList, v, n⟩, ⟨h1, h4, h5⟩, rfl⟩
end
end Go.AW.Cm
