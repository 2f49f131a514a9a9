import Derived.Test.YtagligpagpaceaaWirW10
import Derived.Test.YtagligpagpaceaaAw27
/- Items, as arguments. -/
set_option linter.unusedVariables false
set_option linter.unusedSimpArgs false
namespace Go.AW.Wir
open Go Go.AW Go.Proofs
set_option maxRecDepth 10000
set_option pp.maxSteps 60

section
variable {H : Type} {enc : TypeId × Value → H} {w : World}
theorem inIs_all : ∀ {l : List It}, (∀ i ∈ l, inI i) → inIs l
  | [], _ => by rw [inIs]; trivial
  | i :: r, h => by rw [inIs]; exact ⟨h i (by simp), inIs_all fun j hj => h j (by simp [hj])⟩
theorem rd_item_step (n : Nat) (h : RdN n enc Try.prog w 24 (fun l : List It => [.sl none 4 (itR l)]) (fun l => inIs l ∧ l.length ≤ 9223372036854775807)) : RdN (n + 1) enc Try.prog w 26 itC inI := by
  refine RdN.conv (RdN.struct (len := 4) Try.underlying26 (by kernel_rfl)
    (RdFs.cons (sz := 1) rfl (by kernel_rfl) (RdN.of (Rd.int Try.underlying3))
    (RdFs.cons (sz := 1) rfl (by kernel_rfl) (RdN.of (Rd.int Try.underlying2))
    (RdFs.cons (sz := 1) rfl (by kernel_rfl) (RdN.of (Rd.string Try.underlying9))
    (RdFs.cons (sz := 1) rfl (by kernel_rfl) h RdFs.nil))))) ?_
  rintro ⟨k, n, s, l, u⟩ ⟨hk, hn, hs, hl, _⟩
  refine ⟨.mk k n s.data.toList l, ?_, ?_⟩
  · rw [inI]
    exact ⟨⟨hn, hl.2⟩, hl.1⟩
  · rw [itC_eq]
    rfl
theorem rd_items_step (n : Nat) (h : RdN n enc Try.prog w 26 itC inI) : RdN (n + 1) enc Try.prog w 24 (fun l : List It => [.sl none 4 (itR l)]) (fun l => inIs l ∧ l.length ≤ 9223372036854775807) := by
  refine RdN.conv (RdN.slice Try.underlying24 (sz := 4) (by kernel_rfl) (by decide) h) ?_
  rintro l ⟨h1, h2⟩
  refine ⟨l, ⟨inIs_all h1, ?_⟩, rfl⟩
  rw [show Try.prog.bytesOf 26 = 56 from by kernel_rfl] at h2
  have : reachBytes = 140737488351232 := rfl
  omega
theorem rd_both : ∀ n : Nat, RdN n enc Try.prog w 26 itC inI ∧ RdN n enc Try.prog w 24 (fun l : List It => [.sl none 4 (itR l)]) (fun l => inIs l ∧ l.length ≤ 9223372036854775807)
  | 0 => ⟨RdN.zero, RdN.zero⟩
  | n + 1 => ⟨rd_item_step n (rd_both n).2, rd_items_step n (rd_both n).1⟩
theorem rd_item : Rd enc Try.prog w 26 itC inI := fun n => (rd_both n).1
theorem rd_items : Rd enc Try.prog w 24 (fun l : List It => [.sl none 4 (itR l)]) (fun l => inIs l ∧ l.length ≤ 9223372036854775807) := fun n => (rd_both n).2
end
end Go.AW.Wir
