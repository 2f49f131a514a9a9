/- The checksum's functions, walked, on; the laws that never draw. -/
import Derived.Test.YtplmbihabncbjaaC1
set_option linter.unusedVariables false
set_option linter.unusedSimpArgs false
namespace Go.AW.Crc
open Go Go.AW Go.Proofs
set_option maxRecDepth 10000
set_option pp.maxSteps 300

theorem sum_law (l : List UInt8) (hl : l.length ≤ reachBytes) : FCv Try.prog 10 [.sl none 1 (bytesR l)] (u32 (more 0 l)) := by
  refine FCv_of_awp (fn := Try.f10) (c := bodyC Try.f10) Try.func10 rfl (of_decide_eq_true rfl) [] ?_
  conv => whnf
  refine ⟨_, more_law 0 l hl, ?_⟩
  conv => whnf
  exact .inl rfl

def zeros (s : BitVec 32) (n : Nat) : BitVec 32 := ~~~ run (~~~ s) (List.replicate n 0)
theorem step_int0 (s : BitVec 32) : bitsI .xor .u32 (tab (s.setWidth 8).toNat).toNat ((s.toNat : Int).fdiv (2 ^ min (Int.toNat 8) IntKind.u32.bits)) = ((stepB s 0).toNat : Int) := by
  have := step_int s 0
  rwa [show s.setWidth 8 ^^^ (0 : UInt8).toBitVec = s.setWidth 8 from BitVec.xor_zero] at this
theorem run_rep (s : BitVec 32) (n : Nat) : run s (List.replicate (n + 1) 0) = stepB (run s (List.replicate n 0)) 0 := by
  rw [List.replicate_succ', run, List.foldl_append]; rfl

theorem zeros_law (s : BitVec 32) (n : Int) (h1 : -9223372036854775808 ≤ n) (h2 : n ≤ 9223372036854775807) : FCv Try.prog 14 [u32 s, i64 n] (u32 (zeros s n.toNat)) := by
  obtain ⟨L, hL⟩ := theTab
  refine FCv_of_awp (fn := Try.f14) (c := bodyC Try.f14) Try.func14 rfl (of_decide_eq_true rfl) [] ?_
  conv => whnf
  refine ⟨_, hL.law, ?_⟩
  conv => whnf
  refine chk_intro (by show Nat.beq L.length _ = true; rw [hL.len]; rfl) (chk_intro hL.cell ?_)
  conv => whnf
  refine loop_intro (fun i : Fin (n.toNat + 1) => ⟨[(1, i64 (n - i)), (5, .ptr 0 0 0), (6, u32 (run (~~~ s) (List.replicate i 0)))], [(0, .own 256 [L])], 23, 1, []⟩) (fun i => n.toNat - i) 0 ?_ ?_
  · refine Wk.intro [] rfl (fun p hp => by cases hp) ⟨.same ?_ trivial, .same rfl (by exact rfl), .same ?_ trivial, trivial⟩
      ⟨⟨rfl, .inl ⟨?_, hL.lt _⟩⟩, trivial⟩
    · exact congrArg (fun z => T.lit (.int .i64 z)) (Int.sub_zero n).symm
    · exact congrArg (fun z => T.lit (.int .u32 z)) (not32 _)
    · exact congrArg (fun z => some (Blk.own 256 [z])) (spl_all (hL.len.trans (by rfl)))
  intro i
  conv => whnf
  refine br_intro (fun h => ?_) (fun h => ?_)
  · have hi : i.val < n.toNat := by have := of_decide_eq_true h; omega
    conv => whnf
    refine ⟨⟨?_, ?_⟩, ?_⟩
    · rw [toU8]; omega
    · rw [toU8]; have := ((run (~~~ s) (List.replicate i 0)).setWidth 8).isLt; omega
    rw [toU8]
    conv => whnf
    refine nthK_intro (x := u32 (tab ((run (~~~ s) (List.replicate i 0)).setWidth 8).toNat)) ?_ ?_
    · have := ((run (~~~ s) (List.replicate i 0)).setWidth 8).isLt
      refine Eq.trans ?_ (hL.get _ this)
      congr 1
      show 0 + _ * 1 = _
      omega
    conv => whnf
    refine ⟨by decide, ?_⟩
    conv => whnf
    refine Nx.intro ⟨i + 1, by omega⟩ (by simp only; omega) ?_
    refine Wk.intro [] rfl (fun p hp => by cases hp) ⟨.same ?_ trivial, .same rfl (by exact rfl), .same ?_ trivial, trivial⟩
      ⟨⟨rfl, .inl ⟨rfl, hL.lt _⟩⟩, trivial⟩
    · refine congrArg (fun z => T.lit (.int .i64 z)) ?_
      rw [wrap_i64 _ (by omega) (by omega)]
      show n - i - 1 = n - ((i.val + 1 : Nat) : Int)
      omega
    · refine congrArg (fun z => T.lit (.int .u32 z)) ?_
      rw [run_rep]
      exact step_int0 _
  · have hi : i.val = n.toNat := by have := of_decide_eq_false h; omega
    conv => whnf
    refine .inl ?_
    refine congrArg (fun z => T.lit (.int .u32 z)) ?_
    rw [hi]
    exact not32 _

theorem awake_law : FCv Try.prog 9 [] (tb true) := by
  refine FCv_of_awp (fn := Try.f9) (c := bodyC Try.f9) Try.func9 rfl (of_decide_eq_true rfl) [] ?_
  conv => whnf
  refine ⟨rfl, by decide, ?_⟩
  conv => whnf
  have e : FCv Try.prog 10 [.sl none 1 (bytesR [49, 50, 51, 52, 53, 54, 55, 56, 57])] (u32 0xCBF43926#32) := by
    have := sum_law [49, 50, 51, 52, 53, 54, 55, 56, 57] (by decide)
    rwa [show more 0 [49, 50, 51, 52, 53, 54, 55, 56, 57] = 0xCBF43926#32 from by decide +kernel] at this
  refine ⟨_, e, ?_⟩
  conv => whnf
  have e2 : FCv Try.prog 10 [.lit (.slice none 0 0)] (u32 0#32) := by
    have := sum_law [] (by decide)
    rw [show more 0 [] = 0#32 from by decide +kernel] at this
    exact this.weak ⟨.nil 1, trivial⟩
  refine ⟨_, e2, ?_⟩
  conv => whnf
  exact .inl rfl

end Go.AW.Crc
