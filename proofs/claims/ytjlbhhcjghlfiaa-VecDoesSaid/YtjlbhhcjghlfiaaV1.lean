/- Vectors: the functions of the program, walked. -/
import Derived.Test.YtjlbhhcjghlfiaaAw27
import Derived.Test.YtjlbhhcjghlfiaaProg
set_option linter.unusedVariables false
set_option linter.unusedSimpArgs false
namespace Go.AW.Vec
open Go Go.AW Go.Proofs
set_option maxRecDepth 10000
set_option pp.maxSteps 900

theorem i64w {a b : Int} (h : a = b) (h1 : -9223372036854775808 ≤ b) (h2 : b ≤ 9223372036854775807) : IntKind.i64.wrap a = b := by rw [h]; exact wrap_i64 b h1 h2
theorem i64_cong {a b : Int} (h : a = b) : T.lit (.int .i64 a) = i64 b := by rw [h]; rfl

theorem twice_law (r b v : Int) (hr : 0 ≤ r) (hrb : r < b) (hb : b ≤ 9223372036854775807) (hv : 0 ≤ v) (hv2 : v ≤ 100000) :
    FCm Try.prog 33 [i64 r, i64 b, .ptr 0 0 0] [(0, .own 1 [[i64 v]])] 1 (i64 (if b ≤ 2 * r then 2 * r - b else 2 * r)) [(0, .own 1 [[i64 (if b ≤ 2 * r then 2 * v + 1 else 2 * v)]])] := by
  refine FCm_of_awp (fn := Try.f33) (c := bodyC Try.f33) Try.func33 rfl (of_decide_eq_true rfl) [2000001] rfl ?_
  conv => whnf
  have e1 : IntKind.i64.wrap (b - r) = b - r := wrap_i64 _ (by omega) (by omega)
  rw [e1]
  refine br_intro (fun h => ?_) (fun h => ?_)
  · rw [h]
    have h1 : b ≤ 2 * r := by have := of_decide_eq_true h; omega
    conv => whnf
    rw [if_pos h1, if_pos h1]
    refine ⟨[(0, 0)], ⟨rfl, rfl, rfl⟩, Or.inl ?_, ⟨⟨0, _, rfl, rfl, rfl, ?_, ?_⟩, trivial⟩⟩
    · exact i64_cong (i64w (by rw [e1]; omega) (by omega) (by omega))
    · have e2 : IntKind.i64.wrap (2 * v) = 2 * v := wrap_i64 _ (by omega) (by omega)
      exact congrArg (fun z => Blk.own 1 [[T.lit (.int .i64 z)]]) (i64w (by rw [e2]) (by omega) (by omega))
    · intro row hr c hc
      obtain rfl := List.mem_singleton.1 hr
      obtain rfl := List.mem_singleton.1 hc
      rfl
  · rw [h]
    have h1 : ¬ b ≤ 2 * r := by have := of_decide_eq_false h; omega
    conv => whnf
    rw [if_neg h1, if_neg h1]
    refine ⟨[(0, 0)], ⟨rfl, rfl, rfl⟩, Or.inl ?_, ⟨⟨0, _, rfl, rfl, rfl, ?_, ?_⟩, trivial⟩⟩
    · exact i64_cong (i64w rfl (by omega) (by omega))
    · exact congrArg (fun z => Blk.own 1 [[T.lit (.int .i64 z)]]) (i64w (by omega) (by omega) (by omega))
    · intro row hr c hc
      obtain rfl := List.mem_singleton.1 hr
      obtain rfl := List.mem_singleton.1 hc
      rfl

theorem plus_law (o r a b : Int) (hr : 0 ≤ r) (hrb : r < b) (hb : b ≤ 9223372036854775807) (ha : 0 ≤ a) (hab : a ≤ b) (ho : 0 ≤ o) (ho2 : o ≤ 100000) :
    FCv Try.prog 34 [i64 o, i64 r, i64 a, i64 b] (.tup [i64 (if b ≤ r + a then o + 1 else o), i64 (if b ≤ r + a then r + a - b else r + a)]) := by
  refine FCv_of_awp (fn := Try.f34) (c := bodyC Try.f34) Try.func34 rfl (of_decide_eq_true rfl) [] ?_
  conv => whnf
  have e1 : IntKind.i64.wrap (b - r) = b - r := wrap_i64 _ (by omega) (by omega)
  rw [e1]
  refine br_intro (fun h => ?_) (fun h => ?_)
  · rw [h]
    have h1 : b ≤ r + a := by have := of_decide_eq_true h; omega
    conv => whnf
    rw [if_pos h1, if_pos h1]
    refine ⟨Or.inl ?_, Or.inl ?_, trivial⟩
    · exact i64_cong (i64w rfl (by omega) (by omega))
    · exact i64_cong (i64w (by rw [e1]; omega) (by omega) (by omega))
  · rw [h]
    have h1 : ¬ b ≤ r + a := by have := of_decide_eq_false h; omega
    conv => whnf
    rw [if_neg h1, if_neg h1]
    refine ⟨Or.inl ?_, Or.inl ?_, trivial⟩
    · rfl
    · exact i64_cong (i64w rfl (by omega) (by omega))

def shareV (a b : Int) : Int := if b < a then 1000 else if b = 0 then 0 else 1000 * a / b

/-- The first bits of a thousand, and its bits. -/
def lead (k : Nat) : Int := ((1000 / 2 ^ (10 - k) : Nat) : Int)
def beta (k : Nat) : Int := ((1000 / 2 ^ (9 - k) % 2 : Nat) : Int)
theorem lead_step : ∀ k : Fin 10, lead (k.val + 1) = 2 * lead k.val + beta k.val := by decide
theorem beta_int : ∀ k : Fin 10, bitsI .and .i64 ((1000 : Int).fdiv (2 ^ min (Int.toNat (9 - (k.val : Int))) IntKind.i64.bits)) 1 = beta k.val := by decide
theorem beta_or : ∀ k : Fin 10, beta k.val = 0 ∨ beta k.val = 1 := by decide
def most (k : Nat) : Int := ((2 ^ k : Nat) : Int)
theorem most_le : ∀ k : Fin 11, most k.val ≤ 1024 := by decide
theorem most_step (k : Nat) : most (k + 1) = 2 * most k := by
  unfold most
  rw [Nat.pow_succ]; omega

structure Part (a b : Int) (k : Nat) (o r : Int) : Prop where
  sum : o * b + r = lead k * a
  low : 0 ≤ r
  high : r < b
  pos : 0 ≤ o
  small : o + 2 ≤ 2 * most k

theorem Part.twice {a b : Int} {k : Nat} {o r : Int} (h : Part a b k o r) :
    (if b ≤ 2 * r then 2 * o + 1 else 2 * o) * b + (if b ≤ 2 * r then 2 * r - b else 2 * r) = 2 * (lead k * a) ∧ 0 ≤ (if b ≤ 2 * r then 2 * r - b else 2 * r) ∧ (if b ≤ 2 * r then 2 * r - b else 2 * r) < b ∧
      0 ≤ (if b ≤ 2 * r then 2 * o + 1 else 2 * o) ∧ (if b ≤ 2 * r then 2 * o + 1 else 2 * o) + 3 ≤ 2 * most (k + 1) := by
  obtain ⟨h1, h2, h3, h4, h5⟩ := h
  rw [most_step]
  have e1 : (2 * o + 1) * b = 2 * (o * b) + b := by rw [Int.add_mul, Int.mul_assoc, Int.one_mul]
  have e2 : (2 * o) * b = 2 * (o * b) := Int.mul_assoc _ _ _
  by_cases hc : b ≤ 2 * r
  · simp only [if_pos hc, e1]; omega
  · simp only [if_neg hc, e2]; omega

theorem Part.zero {a b : Int} {k : Nat} (hk : k < 10) {o r : Int} (h : Part a b k o r) (hb : beta k = 0) :
    Part a b (k + 1) (if b ≤ 2 * r then 2 * o + 1 else 2 * o) (if b ≤ 2 * r then 2 * r - b else 2 * r) := by
  obtain ⟨h1, h2, h3, h4, h5⟩ := h.twice
  refine ⟨?_, h2, h3, h4, by omega⟩
  rw [lead_step ⟨k, hk⟩, hb, h1, Int.add_zero, Int.mul_assoc]

theorem Part.one {a b : Int} {k : Nat} (hk : k < 10) {o r o1 r1 : Int} (h : Part a b k o r) (hb : beta k = 1) (ha : 0 ≤ a) (hab : a ≤ b)
    (ho : o1 = if b ≤ 2 * r then 2 * o + 1 else 2 * o) (hr : r1 = if b ≤ 2 * r then 2 * r - b else 2 * r) :
    Part a b (k + 1) (if b ≤ r1 + a then o1 + 1 else o1) (if b ≤ r1 + a then r1 + a - b else r1 + a) := by
  obtain ⟨h1, h2, h3, h4, h5⟩ := h.twice
  rw [← ho, ← hr] at h1
  rw [← hr] at h2 h3
  rw [← ho] at h4 h5
  have e1 : (o1 + 1) * b = o1 * b + b := by rw [Int.add_mul, Int.one_mul]
  have e2 : lead (k + 1) * a = 2 * (lead k * a) + a := by rw [lead_step ⟨k, hk⟩, hb, Int.add_mul, Int.one_mul, Int.mul_assoc]
  by_cases hc : b ≤ r1 + a
  · simp only [if_pos hc]
    exact ⟨by rw [e1, e2]; omega, by omega, by omega, by omega, by omega⟩
  · simp only [if_neg hc]
    exact ⟨by rw [e2]; omega, by omega, by omega, by omega, by omega⟩

theorem row1_lt (x : Nat) (v : Int) : blkLt x (.own 1 [[i64 v]]) := by
  intro row hr c hc
  obtain rfl := List.mem_singleton.1 hr
  obtain rfl := List.mem_singleton.1 hc
  trivial
theorem row1_dom (σ : List (Nat × Nat)) (v : Int) : domB σ (.own 1 [[i64 v]]) := by
  intro row hr c hc
  obtain rfl := List.mem_singleton.1 hr
  obtain rfl := List.mem_singleton.1 hc
  rfl

theorem share_law (a b : Int) (ha : 0 ≤ a) (hb : 0 ≤ b) (ha2 : a ≤ 9223372036854775807) (hb2 : b ≤ 9223372036854775807) : FCv Try.prog 28 [i64 a, i64 b] (i64 (shareV a b)) := by
  refine FCv_of_awp (fn := Try.f28) (c := bodyC Try.f28) Try.func28 rfl (of_decide_eq_true rfl) [1000033] ?_
  conv => whnf
  refine br_intro (fun h => ?_) (fun h => ?_)
  · have h1 := of_decide_eq_true h
    conv => whnf
    refine .inl (i64_cong ?_)
    unfold shareV
    rw [if_pos h1]
  have h1 := of_decide_eq_false h
  conv => whnf
  refine br_intro (fun h => ?_) (fun h => ?_)
  · have h2 : b = 0 := by simpa using h
    conv => whnf
    refine .inl (i64_cong ?_)
    unfold shareV
    rw [if_neg h1, if_pos h2]
  have h2 : b ≠ 0 := by simpa using h
  conv => whnf
  refine loop_intro (fun q : {q : Fin 11 × Int × Int // Part a b q.1 q.2.1 q.2.2} => ⟨[(0, i64 a), (1, i64 b), (5, .ptr 0 0 0), (6, i64 q.1.2.2), (7, i64 (9 - (q.1.1.val : Int)))], [(0, .own 1 [[i64 q.1.2.1]])], 35, 1, [1000033]⟩) (fun q => 10 - q.1.1) ⟨(0, 0, 0), ⟨by show (0 : Int) * b + 0 = lead 0 * a; rw [show lead 0 = 0 from by decide]; omega, by decide, by show (0 : Int) < b; omega, by decide, by decide⟩⟩ ?_ ?_
  · refine Wk.intro [] rfl (fun p hp => by cases hp) ⟨.same rfl trivial, .same rfl trivial, .same rfl (by exact rfl), .same rfl trivial, .same rfl trivial, trivial⟩
      ⟨⟨rfl, .inl ⟨rfl, ?_⟩⟩, trivial⟩
    exact row1_lt _ _
  rintro ⟨⟨k, o, r⟩, hP⟩
  have hP : Part a b k o r := hP
  dsimp only
  conv => whnf
  refine br_intro (fun h => ?_) (fun h => ?_)
  · rw [h]
    have hk : k.val < 10 := by have h' : (9 - (k.val : Int)) ≥ 0 := of_decide_eq_true h; omega
    conv => whnf
    have hml := most_le k
    have hsm := hP.small
    have tw := twice_law r b o hP.low hP.high hb2 hP.pos (by omega)
    obtain ⟨o1, ho1⟩ : ∃ o1, o1 = if b ≤ 2 * r then 2 * o + 1 else 2 * o := ⟨_, rfl⟩
    obtain ⟨r1, hr1⟩ : ∃ r1, r1 = if b ≤ 2 * r then 2 * r - b else 2 * r := ⟨_, rfl⟩
    rw [← ho1, ← hr1] at tw
    refine ⟨[0], _, _, _, _, [(0, .own 1 [[i64 o1]])], _, tw, ⟨rfl, ⟨rfl, trivial⟩, rfl, rfl, ⟨⟨rfl, rfl, row1_dom _ _⟩, trivial⟩, rfl, rfl, ⟨⟨rfl, rfl, rfl, row1_dom _ _⟩, trivial⟩⟩, ?_⟩
    conv => whnf
    refine ⟨by omega, ?_⟩
    conv => whnf
    rw [beta_int ⟨k.val, hk⟩]
    obtain ⟨g1, g2, g3, g4, g5⟩ := hP.twice
    rw [← ho1] at g4 g5
    rw [← hr1] at g2 g3
    have hml2 := most_le ⟨k.val + 1, by omega⟩
    simp only at hml2
    rcases beta_or ⟨k.val, hk⟩ with hbt | hbt
    · rw [hbt]
      conv => whnf
      refine Nx.intro ⟨(⟨k + 1, by omega⟩, o1, r1), by rw [ho1, hr1]; exact hP.zero hk hbt⟩ (by simp only; omega) ?_
      refine Wk.intro [] rfl (fun p hp => by cases hp) ⟨.same rfl trivial, .same rfl trivial, .same rfl (by exact rfl), .same rfl trivial, .same ?_ trivial, trivial⟩
        ⟨⟨rfl, .inl ⟨rfl, row1_lt _ _⟩⟩, trivial⟩
      exact i64_cong (i64w (by simp only; omega) (by simp only; omega) (by simp only; omega))
    · rw [hbt]
      conv => whnf
      refine ⟨_, plus_law o1 r1 a b g2 g3 hb2 ha (by omega) g4 (by omega), ?_⟩
      conv => whnf
      refine Nx.intro ⟨(⟨k + 1, by omega⟩, _, _), hP.one hk hbt ha (by omega) ho1 hr1⟩ (by simp only; omega) ?_
      refine Wk.intro [] rfl (fun p hp => by cases hp) ⟨.same rfl trivial, .same rfl trivial, .same rfl (by exact rfl), .same rfl trivial, .same ?_ trivial, trivial⟩
        ⟨⟨rfl, .inl ⟨rfl, row1_lt _ _⟩⟩, trivial⟩
      exact i64_cong (i64w (by simp only; omega) (by simp only; omega) (by simp only; omega))
  · rw [h]
    have hk : k.val = 10 := by have h' : ¬ (9 - (k.val : Int)) ≥ 0 := of_decide_eq_false h; omega
    conv => whnf
    refine .inl (i64_cong ?_)
    have hs := hP.sum
    rw [hk, show lead 10 = 1000 from by decide] at hs
    unfold shareV
    rw [if_neg (by omega), if_neg h2, ← hs]
    rw [Int.add_ediv_of_dvd_left (Int.dvd_mul_left _ _), Int.mul_ediv_cancel _ h2, Int.ediv_eq_zero_of_lt hP.low hP.high, Int.add_zero]
end Go.AW.Vec
