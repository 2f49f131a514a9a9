/- From a contract of a law to its row. -/
import Derived.Test.YtciboampiaainaaDoorAw22
set_option linter.unusedVariables false
set_option linter.unusedSimpArgs false
namespace Go.AW
open Go Go.RowKit

section
variable {H : Type} {enc : TypeId × Value → H} {P : Program} {w : World}

theorem Rd.conv {t : TypeId} {α β : Type} {E : α → List T} {E' : β → List T} {Pr : α → Prop} {Pr' : β → Prop} (h : Rd enc P w t E Pr) (hc : ∀ x, Pr x → ∃ y, Pr' y ∧ E' y = E x) : Rd enc P w t E' Pr' := by
  intro fuel cs d ps ht hw
  obtain ⟨x, hx, hok⟩ := h fuel cs d ps ht hw
  obtain ⟨y, hy, e⟩ := hc x hx
  exact ⟨y, hy, e ▸ hok⟩

theorem Rd.bytes {t e : TypeId} (hu : P.underlying t = some (.slice e)) (he : P.underlying e = some (.int .u8)) (hsz : P.cellsOf e = 1) (hb : P.bytesOf e = 1) :
    Rd enc P w t (fun l : List UInt8 => [.sl none 1 (bytesR l)]) (fun l => l.length ≤ reachBytes) := by
  refine (Rd.slice (E := fun n : Int => [.lit (.int .u8 n)]) (Pr := fun n => IntKind.u8.min ≤ n ∧ n ≤ IntKind.u8.max) hu hsz (by omega) (Rd.int he)).conv ?_
  intro xs ⟨hx, hl⟩
  refine ⟨xs.map fun n => UInt8.ofNat n.toNat, by simpa [hb] using hl, ?_⟩
  congr 2
  unfold bytesR
  rw [List.map_map]
  apply List.map_congr_left
  intro n hn
  obtain ⟨h1, h2⟩ := hx n hn
  have h3 : 0 ≤ n := by simpa [IntKind.min, IntKind.signed] using h1
  have h4 : n ≤ 255 := by simpa [IntKind.max, IntKind.signed, IntKind.bits] using h2
  simp only [Function.comp]
  congr 3
  have : n.toNat < 256 := by omega
  simp [UInt8.toNat_ofNat, Nat.mod_eq_of_lt this]
  omega

/-- An argument that is one cell. -/
theorem arg_one {t : TypeId} {v : Value} {d : DataW H} {p : List MemPlace} {α : Type} {E : α → List T} {Pr : α → Prop} (hr : Rd enc P w t E Pr) (hv : v.cells = #[v])
    (h : DataW.Trod enc P w 0 (fun _ => true) true t v d p) (hw : ∀ n ∈ d.weights P t, n ≤ reachBytes) : ∃ x, Pr x ∧ ∀ t', E x = [t'] → VRel (Xall w) (fun _ => none) w t' v := by
  obtain ⟨fuel, hf⟩ := h
  rw [hv] at hf
  obtain ⟨x, hx, hok⟩ := hr fuel _ d p hf hw
  refine ⟨x, hx, fun t' e => ?_⟩
  rw [e] at hok
  obtain ⟨h1, h2, h3⟩ := hok.2 0 t' v rfl rfl
  have := h1.vrel (pl := fun _ => none)
  rwa [h3] at this

/-- An argument that is a struct or an array. -/
theorem arg_agg {t : TypeId} {cs : Array Value} {d : DataW H} {p : List MemPlace} {α : Type} {E : α → List T} {Pr : α → Prop} (hr : Rd enc P w t E Pr)
    (h : DataW.Trod enc P w 0 (fun _ => true) true t (.agg cs) d p) (hw : ∀ n ∈ d.weights P t, n ≤ reachBytes) : ∃ x, Pr x ∧ VRel (Xall w) (fun _ => none) w (.agg (E x)) (.agg cs) := by
  obtain ⟨fuel, hf⟩ := h
  obtain ⟨x, hx, hok⟩ := hr fuel _ d p hf hw
  refine ⟨x, hx, ?_⟩
  have := VRel.agg (X := Xall w) (pl := fun _ => none) (w := w) (E x) cs.toList (by simpa [Value.cells] using hok.1) (by
    intro i t' v ht hv
    obtain ⟨h1, h2, h3⟩ := hok.2 i t' v ht (by simpa [Value.cells] using hv)
    have := h1.vrel (pl := fun _ => none)
    rwa [h3] at this)
  simpa using this

theorem slice_cells {a : Option Addr} {l c : Nat} : (Value.slice a l c).cells = #[.slice a l c] := rfl

/-- What a law's contract says of a call. -/
theorem law_calls {f : FuncId} {ts : List T} {args : List Value} (h : FCv P f ts (.lit (.bool true))) (hl : ts.length = args.length)
    (hv : ∀ (i : Nat) (t : T) (v : Value), ts[i]? = some t → args[i]? = some v → VRel (Xall w) (fun _ => none) w t v) (hG : GOk (Xall w) w := by exact fun _ _ _ h => by cases h) :
    Calls P f args.toArray w fun e w' => e = .returned (.bool true) ∧ Below w.heap.size w w' := by
  refine (h (Xall w) w args (fun b off hx => hx) hG hl hv).mono ?_
  rintro e w' ⟨v, X', rfl, hx, he, hX, hr⟩
  rw [hr.lit_inv]
  exact ⟨rfl, he.os, he.tape, he.output, he.size, fun b hb => he.keep b hb (by omega)⟩

end
end Go.AW
