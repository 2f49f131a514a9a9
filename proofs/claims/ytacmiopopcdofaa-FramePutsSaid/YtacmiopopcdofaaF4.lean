/- Frames: scanning. -/
import Derived.Test.YtacmiopopcdofaaF3
set_option linter.unusedVariables false
set_option linter.unusedSimpArgs false
namespace Go.AW.Frm
open Go Go.AW Go.Proofs
open Go.AW.Crc
set_option maxRecDepth 10000
set_option pp.maxSteps 600

/-- The record that bytes begin with. -/
def first (s : List UInt8) : Option (List UInt8) :=
  if s.length < 8 then none else if rd4 (s.drop 4) > 4096 then none else if rd4 (s.drop 4) > s.length - 8 then none
  else if rd4 s = (more 0 ((s.drop 4).take (4 + rd4 (s.drop 4)))).toNat then some ((s.drop 8).take (rd4 (s.drop 4))) else none
def scanF : Nat → List UInt8 → List (List UInt8)
  | 0, _ => []
  | f + 1, s => match first s with
    | none => []
    | some p => p :: scanF f (s.drop (8 + p.length))
theorem first_len {s p : List UInt8} (h : first s = some p) : 8 + p.length ≤ s.length ∧ p.length ≤ 4096 ∧ p.length = rd4 (s.drop 4) := by
  unfold first at h
  split at h
  · cases h
  split at h
  · cases h
  split at h
  · cases h
  split at h
  · cases h
    rw [List.length_take, List.length_drop]
    omega
  · cases h
theorem scanF_any : ∀ (f g : Nat) (s : List UInt8), s.length < f → s.length < g → scanF f s = scanF g s
  | 0, _, s, h, _ => by omega
  | _ + 1, 0, s, _, h => by omega
  | f + 1, g + 1, s, h1, h2 => by
    simp only [scanF]
    cases e : first s with
    | none => rfl
    | some p =>
      have := first_len e
      simp only
      rw [scanF_any f g _ (by rw [List.length_drop]; omega) (by rw [List.length_drop]; omega)]
def scan (s : List UInt8) : List (List UInt8) := scanF (s.length + 1) s
theorem scan_none {s : List UInt8} (h : first s = none) : scan s = [] := by unfold scan; rw [scanF, h]
theorem scan_some {s p : List UInt8} (h : first s = some p) : scan s = p :: scan (s.drop (8 + p.length)) := by
  have := first_len h
  unfold scan
  rw [scanF, h]
  simp only
  rw [scanF_any s.length ((s.drop (8 + p.length)).length + 1) _ (by rw [List.length_drop]; omega) (by omega)]
def size : List (List UInt8) → Nat
  | [] => 0
  | p :: r => 8 + p.length + size r
theorem size_append (a b : List (List UInt8)) : size (a ++ b) = size a + size b := by
  induction a with
  | nil => simp [size]
  | cons x r ih => simp only [List.cons_append, size, ih]; omega
def recsR (l : List (List UInt8)) : List (List T) := l.map fun p => [.sl none 1 (bytesR p)]
theorem recsR_len (l : List (List UInt8)) : (recsR l).length = l.length := List.length_map _
theorem recsR_append (l : List (List UInt8)) (p : List UInt8) : recsR l ++ [[.sl none 1 (bytesR p)]] = recsR (l ++ [p]) := by simp [recsR]
theorem size_ge (l : List (List UInt8)) : l.length * 8 ≤ size l := by
  induction l with
  | nil => simp [size]
  | cons x r ih => simp only [size, List.length_cons]; omega

theorem scan_law (b : List UInt8) (hb : b.length ≤ 1000000000) : FCv Try.prog 13 [.sl none 1 (bytesR b)] (.tup [.sl none 1 (recsR (scan b)), i64 (size (scan b) : Nat)]) := by
  have hrb : reachBytes = 140737488351232 := rfl
  refine FCv_of_awp (fn := Try.f13) (c := bodyC Try.f13) Try.func13 rfl (of_decide_eq_true rfl) [] ?_
  conv => whnf
  have n1 : (Try.prog.types[5]).bytes = 1 := rfl
  refine ⟨by rw [n1, bytesR_len]; omega, by rw [bytesR_len]; omega, ?_⟩
  conv => whnf
  refine loop_intro (fun q : {q : Nat × List (List UInt8) // q.1 ≤ b.length ∧ q.2 ++ scan (b.drop q.1) = scan b ∧ q.1 = size q.2} => ⟨[(0, .sl none 1 (bytesR b)), (4, .sl (some 1) 1 (recsR q.1.2)), (5, i64 (q.1.1 : Nat))], [(1, .tok 1 (recsR q.1.2).length)], 60, 2, []⟩) (fun q => b.length - q.1.1) ⟨(0, []), Nat.zero_le _, rfl, rfl⟩ ?_ ?_
  · refine Wk.intro [(1, 1)] rfl (fun p hp => by obtain rfl := List.mem_singleton.1 hp; exact ⟨Nat.le_refl 1, Nat.lt_succ_self 1, fun q hq => by obtain rfl := List.mem_singleton.1 hq; intro _; rfl⟩)
      ⟨.inr (.inr (.inr (.inr ⟨_, _, _, rfl, rfl⟩))), .inr (.inr (.inr (.inl ⟨rfl, 1, 1, rfl, by simp⟩))), .same rfl trivial, trivial⟩ ⟨⟨rfl, .inr (.inl ⟨1, by simp, rfl⟩)⟩, trivial⟩
  rintro ⟨⟨a, ps⟩, hle, hps, hat⟩
  dsimp only at hle hps hat ⊢
  conv => whnf
  have hsl : (b.drop a).length = b.length - a := List.length_drop
  have e1 : IntKind.i64.wrap (((bytesR b).length : Int) - (a : Int)) = ((b.length - a : Nat) : Int) := by rw [bytesR_len, wrap_i64 _ (by omega) (by omega)]; omega
  rw [e1]
  have g1 : ∀ n : Nat, n + 4 ≤ b.length → FCv Try.prog 21 [.sl none 1 (List.take ((bytesR b).length - n) (List.drop n (bytesR b)))] (u32 (BitVec.ofNat 32 (rd4 (b.drop n)))) := by
    intro n hn
    have := get4_law (b.drop n) (by rw [List.length_drop]; omega)
    rw [← bytesR_drop] at this
    rw [List.take_of_length_le (by rw [List.length_drop]; exact Nat.le_refl _)]
    exact this
  have hmod : ∀ l : List UInt8, (BitVec.ofNat 32 (rd4 l)).toNat = rd4 l := fun l => by rw [BitVec.toNat_ofNat]; exact Nat.mod_eq_of_lt (rd4_lt l)
  refine br_intro (fun h => ?_) (fun h => ?_)
  · rw [h]
    have h8 : 8 ≤ b.length - a := by have := of_decide_eq_true h; omega
    conv => whnf
    have e2 : IntKind.i64.wrap ((a : Int) + 4) = ((a + 4 : Nat) : Int) := by rw [wrap_i64 _ (by omega) (by omega)]; omega
    rw [e2]
    refine ⟨by omega, ?_⟩
    conv => whnf
    rw [Int.toNat_natCast]
    refine ⟨⟨by rw [bytesR_len]; omega, by rw [bytesR_len]; omega⟩, ?_⟩
    conv => whnf
    refine ⟨_, g1 (a + 4) (by omega), ?_⟩
    conv => whnf
    rw [hmod]
    have hd4 : b.drop (a + 4) = (b.drop a).drop 4 := by rw [List.drop_drop]
    obtain ⟨n, hn⟩ : ∃ n, n = rd4 (b.drop (a + 4)) := ⟨_, rfl⟩
    have hn2 : n = rd4 ((b.drop a).drop 4) := by rw [hn, hd4]
    rw [← hn]
    refine br_intro (fun h => ?_) (fun h => ?_)
    · rw [h]
      have hbig := of_decide_eq_true h
      have hnone : first (b.drop a) = none := by unfold first; rw [if_neg (by omega), if_pos (by rw [← hn2]; omega)]
      have hend := scan_none hnone
      rw [hend, List.append_nil] at hps
      conv => whnf
      rw [← hps, ← hat]
      exact ⟨Or.inl rfl, Or.inl rfl, trivial⟩
    rw [h]
    have hbig := of_decide_eq_false h
    conv => whnf
    have e3 : IntKind.i64.wrap (n : Int) = (n : Int) := wrap_i64 _ (by omega) (by omega)
    have e4 : IntKind.i64.wrap (IntKind.i64.wrap (((bytesR b).length : Int) - (a : Int)) - 8) = ((b.length - a - 8 : Nat) : Int) := by rw [e1, wrap_i64 _ (by omega) (by omega)]; omega
    rw [e3, e4]
    refine br_intro (fun h => ?_) (fun h => ?_)
    · rw [h]
      have hfar := of_decide_eq_true h
      have hnone : first (b.drop a) = none := by unfold first; rw [if_neg (by omega), if_neg (by rw [← hn2]; omega), if_pos (by rw [← hn2]; omega)]
      have hend := scan_none hnone
      rw [hend, List.append_nil] at hps
      conv => whnf
      rw [← hps, ← hat]
      exact ⟨Or.inl rfl, Or.inl rfl, trivial⟩
    rw [h]
    have hfar := of_decide_eq_false h
    conv => whnf
    have e5 : IntKind.i64.wrap (IntKind.i64.wrap ((a : Int) + 8) + IntKind.i64.wrap (n : Int)) = ((a + 8 + n : Nat) : Int) := by rw [e3, wrap_i64 ((a : Int) + 8) (by omega) (by omega), wrap_i64 _ (by omega) (by omega)]; omega
    refine ⟨by omega, ?_⟩
    conv => whnf
    rw [Int.toNat_natCast]
    refine ⟨⟨by rw [bytesR_len]; omega, by rw [bytesR_len]; omega⟩, ?_⟩
    conv => whnf
    refine ⟨_, g1 a (by omega), ?_⟩
    conv => whnf
    rw [e5]
    refine ⟨by omega, ?_⟩
    conv => whnf
    rw [e2]
    refine ⟨by omega, ?_⟩
    conv => whnf
    rw [Int.toNat_natCast, Int.toNat_natCast]
    refine ⟨⟨by omega, by rw [bytesR_len]; omega⟩, ?_⟩
    conv => whnf
    have cut : List.take (a + 8 + n - (a + 4)) (List.drop (a + 4) (bytesR b)) = bytesR (((b.drop a).drop 4).take (4 + n)) := by
      rw [bytesR_drop, bytesR_take, hd4, show a + 8 + n - (a + 4) = 4 + n by omega]
    have sm : FCv Try.prog 19 [.sl none 1 (List.take (a + 8 + n - (a + 4)) (List.drop (a + 4) (bytesR b)))] (u32 (more 0 (((b.drop a).drop 4).take (4 + n)))) := by
      rw [cut]
      exact sum_law _ (by rw [List.length_take]; omega)
    refine ⟨_, sm, ?_⟩
    conv => whnf
    rw [hmod]
    by_cases heq : rd4 (b.drop a) = (more 0 (((b.drop a).drop 4).take (4 + n))).toNat
    · rw [show (((rd4 (b.drop a) : Nat) : Int) != (((more 0 (((b.drop a).drop 4).take (4 + n))).toNat : Nat) : Int)) = false by rw [heq]; simp]
      have hsome : first (b.drop a) = some (((b.drop a).drop 8).take n) := by
        unfold first
        rw [if_neg (by omega), if_neg (by rw [← hn2]; omega), if_neg (by rw [← hn2]; omega), ← hn2, if_pos heq]
      have hpl : (((b.drop a).drop 8).take n).length = n := by rw [List.length_take, List.length_drop]; omega
      have hnext := scan_some hsome
      rw [hpl, List.drop_drop] at hnext
      conv => whnf
      have e6 : IntKind.i64.wrap ((a : Int) + 8) = ((a + 8 : Nat) : Int) := by rw [wrap_i64 _ (by omega) (by omega)]; omega
      refine ⟨by omega, ?_⟩
      conv => whnf
      refine ⟨by omega, ?_⟩
      conv => whnf
      rw [e6]
      refine ⟨by omega, ?_⟩
      conv => whnf
      simp only [Int.toNat_natCast]
      refine ⟨⟨rfl, by omega, Nat.le_refl _, by rw [bytesR_len]; omega⟩, ?_⟩
      conv => whnf
      refine ⟨by rw [recsR_len], ?_⟩
      conv => whnf
      have cut2 : List.take (a + 8 + n - (a + 8)) (List.drop (a + 8) (bytesR b)) = bytesR (((b.drop a).drop 8).take n) := by
        rw [bytesR_drop, bytesR_take, List.drop_drop, show a + 8 + n - (a + 8) = n by omega]
      rw [cut2]
      have hsz := size_ge ps
      have hb22 : (Try.prog.types[22]).bytes = 24 := rfl
      refine ⟨by rw [hb22, recsR_len, List.length_singleton]; omega, by rw [recsR_len, List.length_singleton]; omega, ?_⟩
      conv => whnf
      refine Nx.intro ⟨(a + 8 + n, ps ++ [((b.drop a).drop 8).take n]), by simp only; omega, by simp only; rw [← hps, hnext, List.append_assoc, List.drop_drop, List.drop_drop, show a + (8 + n) = a + 8 + n by omega]; rfl, by simp only; rw [size_append, ← hat, size, size, hpl]; omega⟩ (by simp only; omega) ?_
      have hrs : recsR ps ++ [List.map untok (cellsT (T.sl none 1 (bytesR (((b.drop a).drop 8).take n))))] = recsR (ps ++ [((b.drop a).drop 8).take n]) := recsR_append ps _
      refine Wk.intro [] rfl (fun p hp => by cases hp) ⟨.same rfl trivial, .same (congrArg (T.sl (some 1) 1) hrs) (by exact rfl), .same rfl trivial, trivial⟩
        ⟨⟨rfl, .inl ⟨?_, trivial⟩⟩, trivial⟩
      exact congrArg some (congrArg (Blk.tok 1) ((congrArg List.length hrs.symm).trans (List.length_append ..)).symm)
    · rw [show (((rd4 (b.drop a) : Nat) : Int) != (((more 0 (((b.drop a).drop 4).take (4 + n))).toNat : Nat) : Int)) = true by rw [bne_iff_ne]; exact fun e => heq (Int.ofNat.inj e)]
      have hnone : first (b.drop a) = none := by unfold first; rw [if_neg (by omega), if_neg (by rw [← hn2]; omega), if_neg (by rw [← hn2]; omega), ← hn2, if_neg heq]
      have hend := scan_none hnone
      rw [hend, List.append_nil] at hps
      conv => whnf
      rw [← hps, ← hat]
      exact ⟨Or.inl rfl, Or.inl rfl, trivial⟩

  · rw [h]
    have h8 : ¬ 8 ≤ b.length - a := by have := of_decide_eq_false h; omega
    have hnone : first (b.drop a) = none := by unfold first; rw [if_pos (by omega)]
    have hend := scan_none hnone
    rw [hend, List.append_nil] at hps
    conv => whnf
    rw [← hps, ← hat]
    exact ⟨Or.inl rfl, Or.inl rfl, trivial⟩
end Go.AW.Frm
