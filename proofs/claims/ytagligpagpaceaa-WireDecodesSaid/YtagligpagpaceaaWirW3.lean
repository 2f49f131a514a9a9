import Derived.Test.YtagligpagpaceaaWirW2
/- The wire: decoding, walked. -/
set_option linter.unusedVariables false
set_option linter.unusedSimpArgs false
namespace Go.AW.Wir
open Go Go.AW Go.Proofs
set_option maxRecDepth 10000
set_option pp.maxSteps 60

def flatB (rows : List (List T)) : Prop := ∀ row ∈ rows, ∀ c ∈ row, bvN c = true
theorem dom0_bvN (σ : List (Nat × Nat)) {c : T} (h : bvN c = true) : dom0 σ c = true := by
  cases c <;> first | rfl | (simp [bvN] at h; done) | (rename_i tok _ _; cases tok <;> first | rfl | (simp [bvN] at h))
theorem ren0_bvN (σ : List (Nat × Nat)) {c : T} (h : bvN c = true) : ren0 σ c = c := by
  cases c <;> first | rfl | (simp [bvN] at h; done) | (rename_i tok _ _; cases tok <;> first | rfl | (simp [bvN] at h))
theorem domB_flat (σ : List (Nat × Nat)) {sz : Nat} {rows : List (List T)} (h : flatB rows) : domB σ (.own sz rows) := fun row hr c hc => dom0_bvN σ (h row hr c hc)
theorem renB_flat (σ : List (Nat × Nat)) {sz : Nat} {rows : List (List T)} (h : flatB rows) : renB σ (.own sz rows) = .own sz rows := by
  show Blk.own sz (rows.map fun r => r.map (ren0 σ)) = _
  congr 1
  refine (List.map_congr_left fun r hr => ?_).trans (List.map_id _)
  exact (List.map_congr_left fun c hc => ren0_bvN σ (h r hr c hc)).trans (List.map_id _)
theorem itC_flat (i : It) : flatB [itC i] := by
  intro row hr c hc
  obtain rfl := List.mem_singleton.1 hr
  simp only [itC, List.mem_cons, List.mem_nil_iff, or_false] at hc
  rcases hc with rfl | rfl | rfl | rfl <;> rfl
theorem one_flat (v : Int) : flatB [[i64 v]] := by
  intro row hr c hc
  obtain rfl := List.mem_singleton.1 hr
  obtain rfl := List.mem_singleton.1 hc
  rfl
/-- No item. -/
def noIt : It := .mk 0 0 [] []
/-- The results of a decoding, as cells. -/
def dcM (row : List T) (e : Int) : Mem := [(0, .own 4 [row]), (1, .own 1 [[i64 e]])]

theorem ddec_none (row : List T) (hrow : flatB [row]) (e : Int) : FCd Try.prog 18 [.ptr 0 0 0, .ptr 1 0 0] (dcM row e) 2 none (dcM row e) := by
  refine FCd_of_awp (fn := Try.f18) Try.func18 rfl rfl rfl rfl rfl (of_decide_eq_true rfl) rfl (of_decide_eq_true rfl) rfl [2000002] rfl ?_
  conv => whnf
  refine ⟨[(0, 0), (1, 1)], ⟨rfl, rfl, rfl⟩, trivial, ⟨0, _, rfl, rfl, rfl, renB_flat _ hrow, domB_flat _ hrow⟩, ⟨1, _, rfl, rfl, rfl, renB_flat _ (one_flat e), domB_flat _ (one_flat e)⟩, trivial⟩
abbrev zrow : List T := [i64 0, i64 0, str [], .lit (.slice none 0 0)]
theorem zero_flat : flatB [zrow] := by
  intro row hr c hc
  obtain rfl := List.mem_singleton.1 hr
  simp only [List.mem_cons, List.mem_nil_iff, or_false] at hc
  rcases hc with rfl | rfl | rfl | rfl <;> rfl
theorem ddec_some (row : List T) (h4 : row.length = 4) (e v : Int) : FCd Try.prog 18 [.ptr 0 0 0, .ptr 1 0 0] (dcM row e) 2 (some (flt v)) (dcM zrow v) := by
  match row, h4 with
  | [a, b, c, d], _ =>
    refine FCd_of_awp (fn := Try.f18) Try.func18 rfl rfl rfl rfl rfl (of_decide_eq_true rfl) rfl (of_decide_eq_true rfl) rfl [2000002] rfl ?_
    conv => whnf
    refine ⟨[(0, 0), (1, 1)], ⟨rfl, rfl, rfl⟩, trivial, ⟨0, _, rfl, rfl, rfl, rfl, domB_flat _ zero_flat⟩, ⟨1, _, rfl, rfl, rfl, rfl, domB_flat _ (one_flat v)⟩, trivial⟩

theorem dc_in {m : Mem} {row : List T} {e : Int} (h0 : m.get 0 = some (.own 4 [row])) (h1 : m.get 1 = some (.own 1 [[i64 e]])) (hrow : flatB [row]) : memIn (asIn [0, 1] 0) m (dcM row e) :=
  ⟨⟨rfl, by rw [renB_flat _ hrow]; exact h0, domB_flat _ hrow⟩, ⟨rfl, by rw [renB_flat _ (one_flat e)]; exact h1, domB_flat _ (one_flat e)⟩, trivial⟩
theorem dc_out (id : Nat) {row : List T} {e : Int} (hrow : flatB [row]) : memOut (asIn ([0, 1] ++ [id]) 0) (dcM row e) (dcM row e) :=
  ⟨⟨rfl, rfl, renB_flat _ hrow, domB_flat _ hrow⟩, ⟨rfl, rfl, renB_flat _ (one_flat e), domB_flat _ (one_flat e)⟩, trivial⟩
theorem rd_inj {m : Mem} {j : Nat} {b : List UInt8} {left : Int} (h : m.get j = some (.own 2 [[.sl none 1 (bytesR b), i64 left]])) : memIn (asIn [j] 0) m (rdM b left) :=
  ⟨⟨rfl, h, rd_dom _ b left⟩, trivial⟩
theorem rd_outj (j id : Nat) (b : List UInt8) (left : Int) : memOut (asIn ([j] ++ [id]) 0) (rdM b left) [(j, .own 2 [[.sl none 1 (bytesR b), i64 left]])] :=
  ⟨⟨rfl, rfl, rfl, rd_dom _ b left⟩, trivial⟩
def decode (b : List UInt8) : It × Int := match dec 12 4096 b with
  | some (i, _, []) => (i, 0)
  | _ => (noIt, 4)

theorem decode_law (b : List UInt8) (hb : b.length ≤ 140737488351232) : FCv Try.prog 8 [.sl none 1 (bytesR b)] (.tup [itT (decode b).1, i64 (decode b).2]) := by
  refine FCv_of_defer (fn := Try.f8) (g := 18) (gn := Try.f18) Try.func8 rfl rfl rfl rfl rfl rfl rfl Try.func18 rfl rfl (of_decide_eq_true rfl) [2000002, 1000000 + 19, 3000000 + 19] ?_
  conv => whnf
  cases hd : dec 12 4096 b with
  | none =>
    have hx := (items 12).2 1 4096 b (by decide) (by decide) (by decide) (by decide) hb hd
    have hr : decode b = (noIt, 4) := by unfold decode; rw [hd]
    rw [hr]
    refine .inr ⟨[2], _, _, _, hx, ⟨rfl, ⟨rfl, trivial⟩, rfl, rfl, rd_inj rfl⟩, ?_⟩
    conv => whnf
    refine ⟨[0, 1], [.ptr 0 0 0, .ptr 1 0 0], dcM [i64 0, i64 0, str [], .lit (.slice none 0 0)] 0, dcM zrow 4, dcM zrow 4, ddec_some _ rfl 0 4, ⟨rfl, ⟨rfl, rfl, trivial⟩, rfl, rfl, dc_in rfl rfl zero_flat, dc_out _ zero_flat⟩, ?_⟩
    conv => whnf
    exact ⟨.inr (.inr (.inr ⟨.inl rfl, .inl rfl, .inl rfl, .inr (.inl ⟨rfl, 4, rfl⟩), trivial⟩)), .inl rfl, trivial⟩
  | some p =>
    obtain ⟨i, left, r⟩ := p
    have hx := (items 12).1 1 4096 left b r i (by decide) (by decide) (by decide) (by decide) hb hd
    refine .inl ⟨[2], _, _, _, _, _, _, hx, ⟨rfl, ⟨rfl, trivial⟩, rfl, rfl, rd_inj rfl, rfl, rfl, rd_outj 2 _ _ _⟩, ?_⟩
    conv => whnf
    cases r with
    | nil =>
      have hr : decode b = (i, 0) := by unfold decode; rw [hd]
      rw [hr]
      rw [show decide (((bytesR []).length : Int) > 0) = false from rfl]
      conv => whnf
      refine ⟨[0, 1], [.ptr 0 0 0, .ptr 1 0 0], dcM (itC i) 0, dcM (itC i) 0, dcM (itC i) 0, ddec_none _ (itC_flat i) 0, ⟨rfl, ⟨rfl, rfl, trivial⟩, rfl, rfl, dc_in rfl rfl (itC_flat i), dc_out _ (itC_flat i)⟩, ?_⟩
      conv => whnf
      exact ⟨.inl rfl, .inl rfl, trivial⟩
    | cons x r =>
      have hr : decode b = (noIt, 4) := by unfold decode; rw [hd]
      rw [hr]
      rw [show decide (((bytesR (x :: r)).length : Int) > 0) = true from decide_eq_true (by rw [bytesR_len, List.length_cons]; omega)]
      conv => whnf
      refine ⟨[0, 1], [.ptr 0 0 0, .ptr 1 0 0], dcM [i64 0, i64 0, str [], .lit (.slice none 0 0)] 4, dcM [i64 0, i64 0, str [], .lit (.slice none 0 0)] 4, dcM [i64 0, i64 0, str [], .lit (.slice none 0 0)] 4, ddec_none _ zero_flat 4, ⟨rfl, ⟨rfl, rfl, trivial⟩, rfl, rfl, dc_in rfl rfl zero_flat, dc_out _ zero_flat⟩, ?_⟩
      conv => whnf
      exact ⟨.inr (.inr (.inr ⟨.inl rfl, .inl rfl, .inl rfl, .inr (.inl ⟨rfl, 4, rfl⟩), trivial⟩)), .inl rfl, trivial⟩
end Go.AW.Wir
