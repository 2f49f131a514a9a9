/- Frames: the law of putting. -/
import Derived.Test.YtacmiopopcdofaaF11
set_option linter.unusedVariables false
set_option linter.unusedSimpArgs false
namespace Go.AW.Frm
open Go Go.AW Go.Proofs
open Go.AW.Crc
set_option maxRecDepth 10000
set_option pp.maxSteps 600

/-- A contract, its result told by other words. -/
theorem FCv_tup {P : Program} {f : FuncId} {ts a b : List T} (h : FCv P f ts (.tup a)) (hl : leL a b) : FCv P f ts (.tup b) := by
  intro X w args hX hlen hargs
  refine (h X w args hX hlen hargs).mono fun e w' ⟨v, X', he, hm, hx, hb, hv⟩ => ⟨v, X', he, hm, hx, hb, ?_⟩
  cases hv with
  | tup _ vs hlen hh =>
    have e := leL_len hl
    refine .tup _ vs (by omega) ?_
    intro i t v ht hv
    have hi : i < a.length := by have := (List.getElem?_eq_some_iff.1 ht).1; omega
    exact le1_ok (hh i _ v (List.getElem?_eq_getElem hi) hv) (leL_get hl i _ t (List.getElem?_eq_getElem hi) ht)
theorem put_law2 {f : FuncId} {b p : List UInt8} (h : FCv Try.prog f [.sl none 1 (bytesR b), .sl none 1 (bytesR p)] (putT b p)) : ∃ (r : List UInt8) (n : Int), FCv Try.prog f [.sl none 1 (bytesR b), .sl none 1 (bytesR p)] (.tup [.sl none 1 (bytesR r), i64 n]) ∧
    (r, n) = (if p.length > 4096 then ([], 3) else (b ++ recB p, 0)) := by
  unfold putT at h
  by_cases h4 : p.length > 4096
  · rw [if_pos h4] at h
    exact ⟨[], 3, FCv_tup h ⟨.nil 1, .same _, trivial⟩, (if_pos h4).symm⟩
  · rw [if_neg h4] at h
    exact ⟨_, 0, h, (if_neg h4).symm⟩

theorem FramePuts_law (b p : List UInt8) (hb : b.length ≤ reachBytes) (hp : p.length ≤ reachBytes) : FCv Try.prog 3 [.sl none 1 (bytesR b), .sl none 1 (bytesR p)] (tb true) := by
  have hrb : reachBytes = 140737488351232 := rfl
  refine FCv_of_awp (fn := Try.f3) (c := bodyC Try.f3) Try.func3 rfl (of_decide_eq_true rfl) [] ?_
  conv => whnf
  refine ⟨_, awake_law, ?_⟩
  conv => whnf
  refine br_intro (fun h => ?_) (fun h => ?_)
  · rw [h]
    conv => whnf
    exact .inl rfl
  rw [h]
  have h1 := of_decide_eq_false h
  rw [bytesR_len] at h1
  conv => whnf
  refine br_intro (fun h => ?_) (fun h => ?_)
  · rw [h]
    conv => whnf
    exact .inl rfl
  rw [h]
  have h2 := of_decide_eq_false h
  rw [bytesR_len] at h2
  conv => whnf
  have n1 : (Try.prog.types[5]).bytes = 1 := rfl
  have ec : IntKind.i64.wrap (((bytesR b).length : Int) + 100) = ((b.length + 100 : Nat) : Int) := by rw [bytesR_len, wrap_i64 _ (by omega) (by omega)]; omega
  rw [ec]
  refine ⟨⟨by omega, by omega, by omega, by show _ * ((1 : Nat) : Int) ≤ _; omega⟩, ?_⟩
  conv => whnf
  refine ⟨rfl, by rw [n1, bytesR_len]; show (0 + b.length) * 1 ≤ _; omega, by rw [bytesR_len]; show 0 + b.length ≤ _; omega, ?_⟩
  conv => whnf
  obtain ⟨r, e, p1, hre⟩ := put_law2 (put_law b p (by omega) hp)
  obtain ⟨r2, e2, p2, hre2⟩ := put_law2 (rput_law b p (by omega) hp)
  rw [← hre] at hre2
  obtain ⟨rfl, rfl⟩ := Prod.mk.inj hre2
  clear hre hre2
  refine ⟨_, p1, ?_⟩
  conv => whnf
  refine ⟨_, p2, ?_⟩
  conv => whnf
  refine ⟨by simp only [List.length_append], ?_, ?_, ?_⟩
  · rw [n1, List.length_append, bytesR_len]; show (0 + b.length + 9) * 1 ≤ _; omega
  · rw [List.length_append, bytesR_len]; show 0 + b.length + 9 ≤ _; omega
  conv => whnf
  refine ⟨_, ⟨rfl, rfl⟩, ?_⟩
  conv => whnf
  refine ⟨_, ⟨rfl, rfl⟩, ?_⟩
  conv => whnf
  rw [show (ByteArray.toList ⟨r2.toArray⟩ == ByteArray.toList ⟨r2.toArray⟩) = true from beq_self_eq_true _]
  conv => whnf
  rw [show (e2 == e2) = true from beq_self_eq_true _]
  conv => whnf
  refine ⟨by omega, ?_⟩
  conv => whnf
  rw [Int.toNat_natCast]
  refine ⟨⟨by omega, by rw [List.length_append, List.length_append]; show _ ≤ 0 + (bytesR b).length + 9; omega⟩, ?_⟩
  conv => whnf
  refine ⟨b, ⟨rfl, ?_⟩, ?_⟩
  · rw [List.drop_zero, Nat.sub_zero]
    exact List.take_left' rfl
  conv => whnf
  refine ⟨b, ⟨rfl, rfl⟩, ?_⟩
  conv => whnf
  exact .inl (congrArg tb (beq_self_eq_true _))
end Go.AW.Frm
