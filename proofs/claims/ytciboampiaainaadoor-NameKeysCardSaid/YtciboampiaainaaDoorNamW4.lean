/- Names: what a row's laid tables give. -/
import Derived.Test.YtciboampiaainaaDoorNamW3
set_option linter.unusedVariables false
namespace Go.AW.Nam
open Go Go.AW
theorem cell_lt {w : World} {a : Addr} {v : Value} (h : w.cell? a = some v) : a.block < w.heap.size := (cell_spot h).2
theorem gok_utf8 {w : World} (h : Lib.Utf8Tabs 0 1 w) : GOk (Xall w) w := by
  intro b off v hg
  have key : w.cell? ⟨b, off, none⟩ = some v := by
    match b, hg with
    | 0, hg =>
      simp only [gtab] at hg
      split at hg
      · rename_i hc
        cases hg
        exact h.1 off hc
      · cases hg
    | 1, hg =>
      simp only [gtab] at hg
      split at hg
      · rename_i hc
        cases hg
        have h2 := h.2 (off / 2) (by omega)
        split
        · rename_i he
          have := h2.1
          rwa [show 2 * (off / 2) = off by omega] at this
        · rename_i he
          have := h2.2
          rwa [show 2 * (off / 2) + 1 = off by omega] at this
      · cases hg
    | n + 2, hg => simp [gtab] at hg
  exact ⟨cell_lt key, key⟩
end Go.AW.Nam
