/- For any two texts the law NameJoins answers true: joined texts have as many runes as both. -/
import Derived.Test.YtciboampiaainaaDoorRows
import Derived.Test.YtciboampiaainaaDoorTie
import Derived.Test.YtciboampiaainaaDoorCards
import Derived.Test.YtciboampiaainaaDoorNamW4
import Derived.Lib.LaidIn
import Derived.Lib.LaidU8
import Derived.Deep.DeepHandedRow
import Derived.Deep.DeepWitnessRowRef
import Derived.ProofKit
import Derived.SizedLaws
import Derived.SevenTiedAt
namespace Go.Proofs.YtciboampiaainaaDoor.nameJoins
open Go Go.AW Go.ChangeShapes Go.WideShapes Go.ChangeAt Go.RowKit Go.Lib
open Go.AW.Nam
set_option linter.unusedVariables false
theorem own : ownKnob Tryd.prog.godebug = none := by kernel_rfl
theorem laidOut : laidOutB Tryd.prog = true := by kernel_rfl
abbrev spec : OpenSpec := OpenSpec.ofChange Rows.nameJoinsSpec
noncomputable def laidWorld (os : Os) : World :=
  let w0 := World.holding Tryd.prog os ⟨#[], #[], []⟩
  let put (h : Array Obj) (g : Nat) (cs : Array Value) : Array Obj := h.modify g fun
    | .cells _ t frozen => .cells cs t frozen
    | o => o
  let h1 := put w0.heap 0 (Lib.firstTab.map fun z => Value.int .u8 z).toArray
  let h2 := put h1 1 ((List.range 16).flatMap fun i => [Value.int .u8 (Lib.accLo i), Value.int .u8 (Lib.accHi i)]).toArray
  { w0 with heap := h2 }
theorem laid_met (os : Os) (args : Array Value) : laidMet Tryd.prog Rows.nameJoinsRow.laid ((laidWorld os).forCall (fun _ _ => 0) ⟨#[], args, []⟩).memory :=
  (LaidIn.of_run (l := [("unicode/utf8.acceptRanges", Rows.laid_unicode_utf8_acceptRanges), ("unicode/utf8.first", Rows.laid_unicode_utf8_first)]) [1, 0] 8 (by kernel_rfl) (by kernel_rfl) (by kernel_rfl) (by kernel_rfl)).met
theorem witness_row (os : Os) {H : Type} (enc : TypeId × Value → H) :
    spec.preRow enc Tryd.prog Tryd.f9 Rows.nameJoinsRow.domain false Rows.nameJoinsRow.laid ((laidWorld os).forCall (fun _ _ => 0) ⟨#[], #[Value.string ⟨#[]⟩, Value.string ⟨#[]⟩], []⟩).memory #[Value.string ⟨#[]⟩, Value.string ⟨#[]⟩] := by
  have hw : (DataW.whole enc Tryd.prog ((laidWorld os).forCall (fun _ _ => 0) ⟨#[], #[Value.string ⟨#[]⟩, Value.string ⟨#[]⟩], []⟩).memory Tryd.f9.params.toList spec.vars false (#[Value.string ⟨#[]⟩, Value.string ⟨#[]⟩] : Array Value).toList 8).map (fun x => (x.1, x.2.1)) =
      some ([.lit (.string []), .lit (.string [])], []) := by kernel_rfl
  obtain ⟨⟨x1, x2, x3⟩, hx, hx1⟩ := Option.map_eq_some_iff.1 hw
  simp only [Prod.mk.injEq] at hx1
  obtain ⟨rfl, rfl⟩ := hx1
  exact OpenSpec.preRow_of_cond 8 hx (by kernel_rfl) (fun k hk => by cases hk) (by kernel_rfl) (laid_met os _)
set_option maxRecDepth 100000 in
theorem lifted (os : Os) (started : os.Started) (H : Type) (enc : TypeId × Value → H) (F : Stop.Interp) :
    ReturnsInHanded {} Tryd.checked os 9 .any (spec.preRow enc Tryd.prog Tryd.f9 Rows.nameJoinsRow.domain false Rows.nameJoinsRow.laid) ((spec.at F).post enc Tryd.prog Tryd.f9 false true false false) := by
  refine returnsInHanded_of_row (C := Tryd.checked) (s := spec) own started (by kernel_rfl) Tryd.func9
    (witness_row_atRef (enc := enc) (C := Tryd.checked) false (laidWorld os) #[Value.string ⟨#[]⟩, Value.string ⟨#[]⟩] rfl (by kernel_rfl) (by kernel_rfl) (by kernel_rfl) (witness_row os enc)) ?_
  intro W base args ds gs before hval0 hW _ _ hsz0 hL _ _
  have hsz : (DataW.weightsEach Tryd.prog (Tryd.f9.params.toList ++ spec.bare.plain.varTypes Tryd.prog) (ds ++ gs)).all (· ≤ reachBytes) = true := hsz0
  have hval : ∀ (j : Nat) t v, Tryd.f9.params[j]? = some t → args[j]? = some v → Value.okWide Tryd.prog W .any base t v := hval0
  have hW' := hW
  obtain ⟨p, q, hA0, hV, rfl, hfz, hnd⟩ := hW
  have hA : DataW.TrodAll enc Tryd.prog W 0 (fun _ => true) true Tryd.f9.params.toList args.toList ds p := hA0
  rw [Tryd.params9] at hA hval hsz
  obtain ⟨v0, vs0, d0, ds0, p0, q0, hargs, rfl, rfl, h0, r0⟩ := trodAll_cons hA
  obtain ⟨v1, vs1, d1, ds1, p1, q1, rfl, rfl, rfl, h1, r1⟩ := trodAll_cons r0
  obtain ⟨rfl, rfl, rfl⟩ := trodAll_nil r1
  obtain rfl : args = #[v0, v1] := by cases args; simp_all
  obtain ⟨rfl, rfl⟩ := trodVars_none hV
  have hwt : ∀ (j : Nat) t d, ([9, 9] : List TypeId)[j]? = some t → [d0, d1][j]? = some d → ∀ n ∈ d.weights Tryd.prog t, n ≤ reachBytes := by
    intro j t d hj hd n hn
    have := List.all_eq_true.1 hsz n (DataW.weights_mem_each (j := j) (t := t) (d := d) (by
      have hlt := (List.getElem?_eq_some_iff.1 hj).1
      rw [List.getElem?_append_left (by simpa using hlt)]; exact hj) (by
      have hlt := (List.getElem?_eq_some_iff.1 hd).1
      rw [List.getElem?_append_left (by simpa using hlt)]; exact hd) n hn)
    simpa using this
  have lt0 : ∀ x ∈ p0, x.block < W.heap.size := by obtain ⟨m, hm⟩ := h0; exact DataW.trod_lt m _ _ _ hm
  have lt1 : ∀ x ∈ p1, x.block < W.heap.size := by obtain ⟨m, hm⟩ := h1; exact DataW.trod_lt m _ _ _ hm
  have c0 : v0.cells = #[v0] := by obtain ⟨s, rfl⟩ := okWide_string Tryd.underlying9 (hval 0 9 v0 rfl rfl); rfl
  have c1 : v1.cells = #[v1] := by obtain ⟨s, rfl⟩ := okWide_string Tryd.underlying9 (hval 1 9 v1 rfl rfl); rfl
  obtain ⟨⟨⟨x0⟩⟩, y0, e0⟩ := arg_one (Rd.string Tryd.underlying9) c0 h0 (hwt 0 9 d0 rfl rfl)
  obtain ⟨⟨⟨x1⟩⟩, y1, e1⟩ := arg_one (Rd.string Tryd.underlying9) c1 h1 (hwt 1 9 d1 rfl rfl)
  clear hA0 hval0 hsz0 hsz
  have hU : Lib.Utf8Tabs 0 1 W :=
    utf8Tabs_of_reads (ρ := Tryd.lays260_ren) Tryd.lays260 ⟨by kernel_rfl, by kernel_rfl, by kernel_rfl, by kernel_rfl, by kernel_rfl, by kernel_rfl, by kernel_rfl⟩
      ((by kernel_rfl : Rows.laid_unicode_utf8_first = Lib.firstData) ▸ Lib.laidMet.reads hL (.tail _ (.head _))) ((by kernel_rfl : (Rows.laid_unicode_utf8_acceptRanges : DataW Unit) = Lib.acceptData) ▸ Lib.laidMet.reads hL (.head _))
  refine (law_calls (args := [v0, v1]) (NameJoins_law x0 x1 (by have := y0; simpa [ByteArray.size] using this) (by have := y1; simpa [ByteArray.size] using this)) rfl (by
    intro i t v ht hv
    match i with
    | 0 => cases ht; cases hv; exact e0 _ rfl
    | 1 => cases ht; cases hv; exact e1 _ rfl
    | n + 2 => cases ht) (gok_utf8 hU)).mono fun e W' ⟨he, bel⟩ => ?_
  subst he
  exact ⟨_, rfl, _, _, _, [], _, [], hW', trodAll_mk1 (shut_bool Tryd.underlying4 _), (trodAll_cons_mk (Below.trod laidOut (by kernel_rfl) (of_decide_eq_true (by kernel_rfl)) h0 bel lt0) (trodAll_cons_mk (Below.trod laidOut (by kernel_rfl) (of_decide_eq_true (by kernel_rfl)) h1 bel lt1) trodAll_mk0)), rfl, bel.frame _, fun h => by cases h⟩
theorem over : Rows.NameJoinsSaid :=
  OpenClaim.holds_of_cond 9 Tryd.f9 rfl rfl rfl rfl rfl rfl rfl ⟨rfl, rfl, rfl, rfl, rfl⟩ rfl rfl rfl rfl rfl (by kernel_rfl) Tryd.func9 (by kernel_rfl)
    (of_decide_eq_true (by kernel_rfl)) (by unfold Func.isWrapper; first | (rw [if_pos (by decide +kernel)]; kernel_rfl) | (rw [if_neg (by decide +kernel)]; exact ⟨rfl, rfl⟩))
    (fun os started H enc _ F0 => by rw [OpenClaim.pre_eq_preRow]; exact lifted os started H enc F0)
theorem card : Rows.NameJoinsCardSaid :=
  Claim7.holds_tied_plain_at .later [] [.data, .pinned] true (true, "18facc19569558df1d734c31a66e8059f4075a5adf1d73e4dbf1643cce72a9a3") false
    over (fun _ h => by cases h) (by kernel_rfl) (fun _ h => by cases h) nameJoins_row_tie rfl ⟨rfl, rfl⟩ (by kernel_rfl) rfl
    (fun f fn hf hfn => by
      obtain rfl : f = 9 := Option.some.inj ((show Tryd.prog.funcNamed "provost/provostlaw04.NameJoins" = some 9 by kernel_rfl).symm.trans hf) |>.symm
      obtain rfl : fn = Tryd.f9 := (Option.some.inj (Tryd.func9.symm.trans hfn)).symm
      exact ⟨by kernel_rfl, fun j t ht => by
        rw [Tryd.params9] at ht
        have hm : t ∈ ([9, 9] : List TypeId) := by
          have := List.mem_of_getElem? (l := [9, 9]) (i := j) (a := t) (by simpa using ht)
          exact this
        have hall : ∀ t ∈ ([9, 9] : List TypeId), Tryd.prog.wantsStandIn t = false := by
          intro t ht
          simp only [List.mem_cons, List.mem_nil_iff, or_false] at ht
          rcases ht with rfl | rfl <;> kernel_rfl
        exact hall t hm⟩)
    (by kernel_rfl)
end Go.Proofs.YtciboampiaainaaDoor.nameJoins
namespace Go.Proofs.YtciboampiaainaaDoor
theorem nameJoins_holds : Rows.NameJoinsCardSaid := nameJoins.card
end Go.Proofs.YtciboampiaainaaDoor
