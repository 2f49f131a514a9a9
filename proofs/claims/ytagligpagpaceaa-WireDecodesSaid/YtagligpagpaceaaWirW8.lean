import Derived.Test.YtagligpagpaceaaWirW7
import Derived.Test.YtagligpagpaceaaP5
/- The wire: encoding, walked. -/
set_option linter.unusedVariables false
set_option linter.unusedSimpArgs false
namespace Go.AW.Wir
open Go Go.AW Go.Proofs
set_option maxRecDepth 10000
set_option pp.maxSteps 60

abbrev nilS : T := .lit (.slice none 0 0)
/-- What stands ready at an encoding's end. -/
def ecM (b : List UInt8) : Mem := [(0, .own 1 [[.sl (some 2) 1 (bytesR b)]]), (1, .own 1 [[i64 0]]), (2, .tok 1 b.length)]
def exM (e : Int) : Mem := [(0, .own 1 [[nilS]]), (1, .own 1 [[i64 e]])]
theorem nil_flat : flatB [[nilS]] := by
  intro row hr c hc
  obtain rfl := List.mem_singleton.1 hr
  obtain rfl := List.mem_singleton.1 hc
  rfl
theorem ec_dom (σ : List (Nat × Nat)) (b : List UInt8) (h : asHas σ 2 = true) : domB σ (.own 1 [[.sl (some 2) 1 (bytesR b)]]) := by
  intro row hr c hc
  obtain rfl := List.mem_singleton.1 hr
  obtain rfl := List.mem_singleton.1 hc
  exact h
theorem denc_none (b : List UInt8) : FCd Try.prog 22 [.ptr 0 0 0, .ptr 1 0 0] (ecM b) 3 none (ecM b) := by
  refine FCd_of_awp (fn := Try.f22) Try.func22 rfl rfl rfl rfl rfl (of_decide_eq_true rfl) rfl (of_decide_eq_true rfl) rfl [2000003] rfl ?_
  conv => whnf
  exact ⟨[(0, 0), (1, 1), (2, 2)], ⟨rfl, rfl, rfl⟩, trivial, ⟨0, _, rfl, rfl, rfl, rfl, ec_dom _ _ rfl⟩, ⟨1, _, rfl, rfl, rfl, renB_flat _ (one_flat 0), domB_flat _ (one_flat 0)⟩, ⟨2, _, rfl, rfl, rfl, rfl, trivial⟩, trivial⟩
theorem denc_some (v : Int) : FCd Try.prog 22 [.ptr 0 0 0, .ptr 1 0 0] (exM 0) 2 (some (flt v)) (exM v) := by
  refine FCd_of_awp (fn := Try.f22) Try.func22 rfl rfl rfl rfl rfl (of_decide_eq_true rfl) rfl (of_decide_eq_true rfl) rfl [2000002] rfl ?_
  conv => whnf
  exact ⟨[(0, 0), (1, 1)], ⟨rfl, rfl, rfl⟩, trivial, ⟨0, _, rfl, rfl, rfl, rfl, domB_flat _ nil_flat⟩, ⟨1, _, rfl, rfl, rfl, rfl, domB_flat _ (one_flat v)⟩, trivial⟩
theorem ec_in {m : Mem} (j : Nat) {b : List UInt8} (h0 : m.get 1 = some (.own 1 [[.sl (some j) 1 (bytesR b)]])) (h1 : m.get 2 = some (.own 1 [[i64 0]])) (h2 : m.get j = some (.tok 1 b.length)) : memIn (asIn [1, 2, j] 0) m (ecM b) :=
  ⟨⟨rfl, h0, ec_dom _ _ rfl⟩, ⟨rfl, by rw [renB_flat _ (one_flat 0)]; exact h1, domB_flat _ (one_flat 0)⟩, ⟨rfl, h2, trivial⟩, trivial⟩
theorem ec_out (j id : Nat) (b : List UInt8) : memOut (asIn ([1, 2, j] ++ [id]) 0) (ecM b) [(1, .own 1 [[.sl (some j) 1 (bytesR b)]]), (2, .own 1 [[i64 0]]), (j, .tok 1 b.length)] :=
  ⟨⟨rfl, rfl, rfl, ec_dom _ _ rfl⟩, ⟨rfl, rfl, renB_flat _ (one_flat 0), domB_flat _ (one_flat 0)⟩, ⟨rfl, rfl, rfl, trivial⟩, trivial⟩
theorem ex_in {m : Mem} {e : Int} (h0 : m.get 1 = some (.own 1 [[nilS]])) (h1 : m.get 2 = some (.own 1 [[i64 e]])) : memIn (asIn [1, 2] 0) m (exM e) :=
  ⟨⟨rfl, by rw [renB_flat _ nil_flat]; exact h0, domB_flat _ nil_flat⟩, ⟨rfl, by rw [renB_flat _ (one_flat e)]; exact h1, domB_flat _ (one_flat e)⟩, trivial⟩
theorem ex_out (id : Nat) (e : Int) : memOut (asIn ([1, 2] ++ [id]) 0) (exM e) [(1, .own 1 [[nilS]]), (2, .own 1 [[i64 e]])] :=
  ⟨⟨rfl, rfl, renB_flat _ nil_flat, domB_flat _ nil_flat⟩, ⟨rfl, rfl, renB_flat _ (one_flat e), domB_flat _ (one_flat e)⟩, trivial⟩

theorem encode_law (i : It) (hi : inI i) : FCv Try.prog 13 [itT i] (.tup [.sl none 1 (bytesR (encode i).1), i64 (encode i).2]) := by
  refine FCv_of_defer (fn := Try.f13) (g := 22) (gn := Try.f22) Try.func13 rfl rfl rfl rfl rfl rfl rfl Try.func22 rfl rfl (of_decide_eq_true rfl) [2000003, 1000000 + 24, 3000000 + 24, 1000000 + 23, 3000000 + 23] ?_
  have hrow : itT i = .agg [i64 i.k, i64 i.n, str i.s, .sl none 4 (itR i.l)] := congrArg T.agg (itC_eq _)
  by_cases ho : okc i 1 4096
  · have h1 := (of_law i).1 1 4096 (by decide) (by decide) (by decide) (by decide) hi ho
    have hsz := szV_vI ho.2.2
    have hnl := ho.1
    cases hv : enV (vI i) with
    | none =>
      have hr : encode i = ([], 4) := by unfold encode; rw [if_pos ho, hv]
      rw [hr]
      have h2 := put_no0 (vI i) (by omega) (inV_vI hi) hv
      rw [hrow] at h1 ⊢
      rcases vT_form (vI i) with ⟨ea, eb, e⟩ | ⟨ea, eb, e⟩ <;> rw [e] at h1 h2 <;> (conv => whnf) <;>
        refine .inl ⟨[3], _, _, _, _, [(3, .own 1 [[i64 (4096 - (nI i : Int))]])], _, h1, ⟨rfl, ⟨rfl, trivial⟩, rfl, rfl, lf_in rfl, rfl, rfl, lf_out 3 _ _⟩, ?_⟩ <;> (conv => whnf) <;>
        refine .inr ⟨[], _, _, _, h2, ⟨rfl, trivial, rfl, rfl, trivial⟩, ?_⟩ <;> (conv => whnf) <;>
        refine ⟨[1, 2], [.ptr 0 0 0, .ptr 1 0 0], exM 0, exM 4, [(1, .own 1 [[nilS]]), (2, .own 1 [[i64 4]])], denc_some 4, ⟨rfl, ⟨rfl, rfl, trivial⟩, rfl, rfl, ex_in rfl rfl, ex_out _ 4⟩, ?_⟩ <;> (conv => whnf) <;>
        exact ⟨.inr (.inl ⟨rfl, 1, rfl⟩), .inl rfl, trivial⟩
    | some b =>
      have hr : encode i = (b, 0) := by unfold encode; rw [if_pos ho, hv]
      rw [hr]
      have h2 := put_ok0 (vI i) b (by omega) (inV_vI hi) hv
      rw [hrow] at h1 ⊢
      rcases vT_form (vI i) with ⟨ea, eb, e⟩ | ⟨ea, eb, e⟩ <;> rw [e] at h1 h2 <;> (conv => whnf) <;>
        refine .inl ⟨[3], _, _, _, _, [(3, .own 1 [[i64 (4096 - (nI i : Int))]])], _, h1, ⟨rfl, ⟨rfl, trivial⟩, rfl, rfl, lf_in rfl, rfl, rfl, lf_out 3 _ _⟩, ?_⟩ <;> (conv => whnf) <;>
        refine .inl ⟨[], _, _, _, _, [(5, .tok 1 b.length)], _, h2, ⟨rfl, trivial, rfl, rfl, trivial, rfl, rfl, ⟨⟨rfl, rfl, rfl, trivial⟩, trivial⟩⟩, ?_⟩ <;> (conv => whnf) <;>
        refine ⟨[1, 2, 5], [.ptr 0 0 0, .ptr 1 0 0], ecM b, ecM b, [(1, .own 1 [[.sl (some 5) 1 (bytesR b)]]), (2, .own 1 [[i64 0]]), (5, .tok 1 b.length)], denc_none b, ⟨rfl, ⟨rfl, rfl, rfl, trivial⟩, rfl, rfl, ec_in 5 rfl rfl rfl, ec_out 5 _ b⟩, ?_⟩ <;> (conv => whnf) <;>
        (refine ⟨?_, .inl rfl, trivial⟩) <;> (conv => whnf) <;> exact .inl rfl
  · have h1 := (of_law i).2 1 4096 (by decide) (by decide) (by decide) (by decide) hi ho
    have hr : encode i = ([], 3) := by unfold encode; rw [if_neg ho]
    rw [hr]
    rw [hrow] at h1 ⊢
    conv => whnf
    refine .inr ⟨[3], _, _, _, h1, ⟨rfl, ⟨rfl, trivial⟩, rfl, rfl, lf_in rfl⟩, ?_⟩
    conv => whnf
    refine ⟨[1, 2], [.ptr 0 0 0, .ptr 1 0 0], exM 0, exM 3, [(1, .own 1 [[nilS]]), (2, .own 1 [[i64 3]])], denc_some 3, ⟨rfl, ⟨rfl, rfl, trivial⟩, rfl, rfl, ex_in rfl rfl, ex_out _ 3⟩, ?_⟩
    conv => whnf
    exact ⟨.inr (.inl ⟨rfl, 1, rfl⟩), .inl rfl, trivial⟩
end Go.AW.Wir
