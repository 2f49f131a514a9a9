import Derived.Test.YtmobiphgmdigjaaAw21
import Derived.ProofKit
import Derived.OpenShut
import Derived.ChangeOld
import Derived.Below
import Derived.SizedLaws
/- Arguments, read as data. -/
set_option linter.unusedVariables false
set_option linter.unusedSimpArgs false
namespace Go.AW
open Go

/-- All cells there are. -/
def Xall (w : World) : Xs := fun b _ => b < w.heap.size

def OkCells (w : World) (ts : List T) (cs : List Value) : Prop :=
  ts.length = cs.length ∧ ∀ (i : Nat) (t : T) (v : Value), ts[i]? = some t → cs[i]? = some v → BRel (Xall w) w t v ∧ v.oneCell' = true ∧ untok t = t

/-- Whatever is read at a type is an encoding of plain data. -/
def Rd {H : Type} (enc : TypeId × Value → H) (P : Program) (w : World) (t : TypeId) {α : Type} (E : α → List T) (Pr : α → Prop) : Prop :=
  ∀ (fuel : Nat) (cs : List Value) (d : DataW H) (ps : List MemPlace), DataW.trod enc P w 0 (fun _ => true) true fuel t cs = some (d, ps) →
    (∀ n ∈ d.weights P t, n ≤ reachBytes) → ∃ x : α, Pr x ∧ OkCells w (E x) cs

section
variable {H : Type} {enc : TypeId × Value → H} {P : Program} {w : World}

theorem OkCells.one {t : T} {v : Value} (h : BRel (Xall w) w t v) (h1 : v.oneCell' = true) (h2 : untok t = t) : OkCells w [t] [v] := by
  refine ⟨rfl, fun i t' v' ht hv => ?_⟩
  cases i with
  | zero => simp at ht hv; subst ht hv; exact ⟨h, h1, h2⟩
  | succ i => simp at ht

theorem Rd.int {t : TypeId} {k : IntKind} (hu : P.underlying t = some (.int k)) : Rd enc P w t (fun n : Int => [.lit (.int k n)]) (fun n => k.min ≤ n ∧ n ≤ k.max) := by
  intro fuel cs d ps h hw
  cases fuel with
  | zero => simp [DataW.trod] at h
  | succ fuel =>
    simp only [DataW.trod, hu] at h
    split at h <;> simp_all
    obtain ⟨⟨h1, hwf⟩, _⟩ := h
    refine ⟨_, ?_, .one (.lit _) rfl rfl⟩
    simpa [Lit.wf] using hwf

theorem Rd.bool {t : TypeId} (hu : P.underlying t = some .bool) : Rd enc P w t (fun b : Bool => [.lit (.bool b)]) (fun _ => True) := by
  intro fuel cs d ps h hw
  cases fuel with
  | zero => simp [DataW.trod] at h
  | succ fuel =>
    simp only [DataW.trod, hu] at h
    split at h <;> first | exact ⟨_, trivial, .one (.lit _) rfl rfl⟩ | (cases h; done) | (simp_all; done)

theorem Rd.string {t : TypeId} (hu : P.underlying t = some .string) : Rd enc P w t (fun s : ByteArray => [.lit (.string s)]) (fun s => s.size ≤ reachBytes) := by
  intro fuel cs d ps h hw
  cases fuel with
  | zero => simp [DataW.trod] at h
  | succ fuel =>
    simp only [DataW.trod, hu] at h
    split at h <;> simp_all
    rename_i s
    obtain ⟨h1, rfl, rfl⟩ := h
    refine ⟨s, ?_, .one (.lit _) rfl rfl⟩
    simpa [DataW.weights] using hw

theorem mapM_get {α β : Type} {f : α → Option β} : ∀ {l : List α} {r : List β}, l.mapM f = some r → r.length = l.length ∧ ∀ (i : Nat) (x : α) (y : β), l[i]? = some x → r[i]? = some y → f x = some y
  | [], r, h => by simp at h; subst h; simp
  | a :: l, r, h => by
    simp only [List.mapM_cons, Option.bind_eq_bind, Option.pure_def, Option.bind_eq_some_iff, Option.some.injEq] at h
    obtain ⟨b, hb, bs, hbs, rfl⟩ := h
    obtain ⟨h1, h2⟩ := mapM_get hbs
    refine ⟨by simp [h1], fun i x y hx hy => ?_⟩
    cases i with
    | zero => simp at hx hy; subst hx hy; exact hb
    | succ i => exact h2 i x y (by simpa using hx) (by simpa using hy)

theorem weightsAll_mem {e : TypeId} {ds : List (DataW H)} {d : DataW H} (hd : d ∈ ds) {n : Nat} (hn : n ∈ d.weights P e) : n ∈ DataW.weightsAll P e ds := by
  induction ds with
  | nil => simp at hd
  | cons x r ih =>
    simp only [DataW.weightsAll, List.mem_append]
    rcases List.mem_cons.1 hd with rfl | h
    · exact .inl hn
    · exact .inr (ih h)

theorem cells?_some {a : Addr} {n : Nat} {cs : List Value} (ha : a.spot = none) (h : w.cells? 0 a n = some cs) : cs.length = n ∧ ∀ (j : Nat) (v : Value), cs[j]? = some v → w.cell? ⟨a.block, a.off + j, none⟩ = some v := by
  unfold World.cells? at h
  rw [if_pos (Nat.zero_le _)] at h
  obtain ⟨h1, h2⟩ := mapM_get h
  refine ⟨by simpa using h1, fun j v hv => ?_⟩
  have hj : j < n := by have := (List.getElem?_eq_some_iff.1 hv).1; rw [h1] at this; simpa using this
  have := h2 j j v (by simp [hj]) hv
  obtain ⟨b, o, sp⟩ := a
  simp only at ha
  subst ha
  rw [Addr.add_lit] at this
  exact this

theorem cell_spot {a : Addr} {v : Value} (h : w.cell? a = some v) : a.spot = none ∧ a.block < w.heap.size := by
  refine ⟨?_, World.block_lt_of_cell? w a h⟩
  unfold World.cell? at h
  split at h
  · split at h
    · cases h
    · rename_i hs; cases e : a.spot <;> simp_all
  · cases h

theorem Rd.slice {t e : TypeId} {sz : Nat} {α : Type} {E : α → List T} {Pr : α → Prop} (hu : P.underlying t = some (.slice e)) (hsz : P.cellsOf e = sz) (hpos : 0 < sz) (he : Rd enc P w e E Pr) :
    Rd enc P w t (fun l : List α => [.sl none sz (l.map E)]) (fun l => (∀ x ∈ l, Pr x) ∧ l.length * P.bytesOf e ≤ reachBytes) := by
  intro fuel cs d ps h hw
  cases fuel with
  | zero => simp [DataW.trod] at h
  | succ fuel =>
    have nilcase : ∃ x : List α, ((∀ y ∈ x, Pr y) ∧ x.length * P.bytesOf e ≤ reachBytes) ∧ OkCells w [.sl none sz (x.map E)] [.slice none 0 0] :=
      ⟨[], ⟨by simp, by simp⟩, .one (.sl none sz [] none 0 (fun _ _ => undef) (Nat.le_refl _) (by simp) (by simp) (by simp)) rfl rfl⟩
    have main : ∀ a len cap, cs = [.slice (some a) len cap] → ∃ x : List α, ((∀ y ∈ x, Pr y) ∧ x.length * P.bytesOf e ≤ reachBytes) ∧ OkCells w [.sl none sz (x.map E)] cs := by
      rintro a len cap rfl
      simp only [DataW.trod, hu] at h
      split at h <;> try (cases h)
      rename_i hc
      simp only [Option.bind_eq_some_iff, Option.map_eq_some_iff] at h
      obtain ⟨elems, hel, rest, hrest, h⟩ := h
      simp only [Prod.mk.injEq] at h
      obtain ⟨rfl, rfl⟩ := h
      obtain ⟨h1, h2⟩ := mapM_get hel
      have hlen : elems.length = len := by simpa using h1
      have hel2 : ∀ (i : Nat), i < len → ∃ x : α, Pr x ∧ ∃ cs : List Value, w.cells? 0 (a.add (i * sz)) sz = some cs ∧ OkCells w (E x) cs := by
        intro i hi
        have hg := h2 i i elems[i] (by simp [hi]) (by simp [hlen, hi])
        rw [hsz] at hg
        simp only [Option.bind_eq_some_iff] at hg
        obtain ⟨cs2, hcs2, hg⟩ := hg
        obtain ⟨x, hx, hok⟩ := he fuel cs2 elems[i].1 elems[i].2 hg (by
          intro n hn
          refine hw n ?_
          simp only [DataW.weights, hu, List.mem_cons, List.mem_append]
          exact .inr (.inl (weightsAll_mem (List.mem_map.2 ⟨elems[i], by simp, rfl⟩) hn)))
        exact ⟨x, hx, cs2, hcs2, hok⟩
      have hex : ∃ xs : List α, xs.length = len ∧ ∀ (i : Nat) (x : α), xs[i]? = some x → Pr x ∧ ∃ cs : List Value, w.cells? 0 (a.add (i * sz)) sz = some cs ∧ OkCells w (E x) cs := by
        have : ∀ n, n ≤ len → ∃ xs : List α, xs.length = n ∧ ∀ (i : Nat) (x : α), xs[i]? = some x → Pr x ∧ ∃ cs : List Value, w.cells? 0 (a.add (i * sz)) sz = some cs ∧ OkCells w (E x) cs := by
          intro n
          induction n with
          | zero => intro _; exact ⟨[], rfl, by simp⟩
          | succ n ih =>
            intro hn
            obtain ⟨xs, hxl, hxs⟩ := ih (by omega)
            obtain ⟨x, hx⟩ := hel2 n (by omega)
            refine ⟨xs ++ [x], by simp [hxl], fun i y hy => ?_⟩
            by_cases hi : i < xs.length
            · rw [List.getElem?_append_left hi] at hy; exact hxs i y hy
            · have hin : i = n := by
                have := (List.getElem?_eq_some_iff.1 hy).1
                simp at this; omega
              subst hin
              rw [List.getElem?_append_right (by omega), hxl] at hy
              simp at hy
              subst hy; exact hx
        exact this len (Nat.le_refl _)
      obtain ⟨xs, hxl, hxs⟩ := hex
      have hget : ∀ (i : Nat) (row : List T), (xs.map E)[i]? = some row → ∃ x, xs[i]? = some x ∧ row = E x := by
        intro i row hrow
        simp only [List.getElem?_map] at hrow
        cases hx : xs[i]? with
        | none => simp [hx] at hrow
        | some x => simp [hx] at hrow; exact ⟨x, rfl, hrow.symm⟩
      -- where the rows lie
      have hcell : ∀ (i : Nat) (x : α), xs[i]? = some x → a.spot = none ∧ (E x).length = sz ∧ ∀ (j : Nat), j < sz → ∃ v t, w.cell? ⟨a.block, a.off + i * sz + j, none⟩ = some v ∧ (E x)[j]? = some t ∧ BRel (Xall w) w t v ∧ v.oneCell' = true ∧ a.block < w.heap.size := by
        intro i x hx
        obtain ⟨_, cs2, hcs2, hok⟩ := hxs i x hx
        have hspot : a.spot = none := by
          have h3 : ((List.range sz).mapM fun k => w.cell? ((a.add (i * sz)).add k)) = some cs2 := by
            unfold World.cells? at hcs2
            rwa [if_pos (Nat.zero_le _)] at hcs2
          obtain ⟨g1, g2⟩ := mapM_get h3
          have h0 : 0 < cs2.length := by rw [g1]; simpa using hpos
          have h4 := g2 0 0 cs2[0] (by simp [hpos]) (by simp [h0])
          -- the first row's first cell bears no spot
          obtain ⟨x0, hx0⟩ : ∃ x0, xs[0]? = some x0 := by
            have : i < xs.length := (List.getElem?_eq_some_iff.1 hx).1
            exact ⟨xs[0], by simp⟩
          obtain ⟨_, cs0, hcs0, hok0⟩ := hxs 0 x0 hx0
          have h5 : ((List.range sz).mapM fun k => w.cell? ((a.add (0 * sz)).add k)) = some cs0 := by
            unfold World.cells? at hcs0
            rwa [if_pos (Nat.zero_le _)] at hcs0
          obtain ⟨g3, g4⟩ := mapM_get h5
          have h6 : 0 < cs0.length := by rw [g3]; simpa using hpos
          have h7 := g4 0 0 cs0[0] (by simp [hpos]) (by simp [h6])
          have := (cell_spot h7).1
          simpa [Addr.add] using this
        have hadd : a.add (i * sz) = ⟨a.block, a.off + i * sz, none⟩ := by
          obtain ⟨b, o, sp⟩ := a
          simp only at hspot
          subst hspot
          rw [Addr.add_lit]
        rw [hadd] at hcs2
        obtain ⟨g1, g2⟩ := cells?_some rfl hcs2
        refine ⟨hspot, by rw [hok.1, g1], fun j hj => ?_⟩
        have hjl : j < cs2.length := by omega
        have hjE : j < (E x).length := by rw [hok.1]; exact hjl
        have h8 := g2 j cs2[j] (by simp [hjl])
        obtain ⟨k1, k2, _⟩ := hok.2 j (E x)[j] cs2[j] (by simp [hjE]) (by simp [hjl])
        exact ⟨cs2[j], (E x)[j], h8, by simp [hjE], k1, k2, (cell_spot h8).2⟩
      refine ⟨xs, ⟨fun y hy => ?_, ?_⟩, .one ?_ rfl rfl⟩
      · obtain ⟨i, hi, rfl⟩ := List.getElem_of_mem hy
        exact (hxs i xs[i] (by simp [hi])).1
      · have h9 : (elems.length + rest.length) * P.bytesOf e ≤ reachBytes := by
          have := hw ((elems.length + rest.length) * P.bytesOf e) (by simp only [DataW.weights, hu, List.length_map]; exact List.mem_cons_self)
          exact this
        rw [hxl, ← hlen]
        refine Nat.le_trans (Nat.mul_le_mul_right _ ?_) h9
        omega
      · have hb := BRel.sl (X := Xall w) (w := w) none sz (xs.map E) (some a) cap (fun i j => (w.cell? ⟨a.block, a.off + i * sz + j, none⟩).getD undef) (by simp [hxl]; omega) ?_ ?_ ?_
        · rw [List.length_map, hxl] at hb; exact hb
        · intro i row hrow
          obtain ⟨x, hx, rfl⟩ := hget i row hrow
          exact (hcell i x hx).2.1
        · intro i row hrow
          obtain ⟨x, hx, rfl⟩ := hget i row hrow
          obtain ⟨hs, hl2, hc2⟩ := hcell i x hx
          refine ⟨a.block, a.off, by rw [← hs], fun j hj => ?_⟩
          obtain ⟨v, t, hv, _, _, ho, hlt⟩ := hc2 j hj
          exact ⟨hlt, by simp [hv], by simp [hv, ho]⟩
        · intro i row j t hrow ht
          obtain ⟨x, hx, rfl⟩ := hget i row hrow
          obtain ⟨hs, hl2, hc2⟩ := hcell i x hx
          have hj : j < sz := by rw [← hl2]; exact (List.getElem?_eq_some_iff.1 ht).1
          obtain ⟨v, t', hv, ht', hbr, _, _⟩ := hc2 j hj
          rw [ht'] at ht
          obtain rfl := Option.some.inj ht
          simp [hv]; exact hbr
    have h' := h
    simp only [DataW.trod, hu] at h'
    split at h' <;> try (cases h'; done)
    all_goals first
      | exact nilcase
      | (exact main _ _ _ rfl)
      | (rename_i heq; cases heq)
      | (simp_all; done)

end
end Go.AW

/- From a contract of a law to its row. -/
set_option linter.unusedVariables false
set_option linter.unusedSimpArgs false
namespace Go.AW
open Go Go.RowKit

section
variable {H : Type} {enc : TypeId × Value → H} {P : Program} {w : World}

theorem Rd.conv {t : TypeId} {α β : Type} {E : α → List T} {E' : β → List T} {Pr : α → Prop} {Pr' : β → Prop} (h : Rd enc P w t E Pr) (hc : ∀ x, Pr x → ∃ y, Pr' y ∧ E' y = E x) : Rd enc P w t E' Pr' := by
  intro fuel cs d ps ht hw
  obtain ⟨x, hx, hok⟩ := h fuel cs d ps ht hw
  obtain ⟨y, hy, e⟩ := hc x hx
  exact ⟨y, hy, e ▸ hok⟩

theorem Rd.bytes {t e : TypeId} (hu : P.underlying t = some (.slice e)) (he : P.underlying e = some (.int .u8)) (hsz : P.cellsOf e = 1) (hb : P.bytesOf e = 1) :
    Rd enc P w t (fun l : List UInt8 => [.sl none 1 (bytesR l)]) (fun l => l.length ≤ reachBytes) := by
  refine (Rd.slice (E := fun n : Int => [.lit (.int .u8 n)]) (Pr := fun n => IntKind.u8.min ≤ n ∧ n ≤ IntKind.u8.max) hu hsz (by omega) (Rd.int he)).conv ?_
  intro xs ⟨hx, hl⟩
  refine ⟨xs.map fun n => UInt8.ofNat n.toNat, by simpa [hb] using hl, ?_⟩
  congr 2
  unfold bytesR
  rw [List.map_map]
  apply List.map_congr_left
  intro n hn
  obtain ⟨h1, h2⟩ := hx n hn
  have h3 : 0 ≤ n := by simpa [IntKind.min, IntKind.signed] using h1
  have h4 : n ≤ 255 := by simpa [IntKind.max, IntKind.signed, IntKind.bits] using h2
  simp only [Function.comp]
  congr 3
  have : n.toNat < 256 := by omega
  simp [UInt8.toNat_ofNat, Nat.mod_eq_of_lt this]
  omega

/-- An argument that is one cell. -/
theorem arg_one {t : TypeId} {v : Value} {d : DataW H} {p : List MemPlace} {α : Type} {E : α → List T} {Pr : α → Prop} (hr : Rd enc P w t E Pr) (hv : v.cells = #[v])
    (h : DataW.Trod enc P w 0 (fun _ => true) true t v d p) (hw : ∀ n ∈ d.weights P t, n ≤ reachBytes) : ∃ x, Pr x ∧ ∀ t', E x = [t'] → VRel (Xall w) (fun _ => none) w t' v := by
  obtain ⟨fuel, hf⟩ := h
  rw [hv] at hf
  obtain ⟨x, hx, hok⟩ := hr fuel _ d p hf hw
  refine ⟨x, hx, fun t' e => ?_⟩
  rw [e] at hok
  obtain ⟨h1, h2, h3⟩ := hok.2 0 t' v rfl rfl
  have := h1.vrel (pl := fun _ => none)
  rwa [h3] at this

/-- An argument that is a struct or an array. -/
theorem arg_agg {t : TypeId} {cs : Array Value} {d : DataW H} {p : List MemPlace} {α : Type} {E : α → List T} {Pr : α → Prop} (hr : Rd enc P w t E Pr)
    (h : DataW.Trod enc P w 0 (fun _ => true) true t (.agg cs) d p) (hw : ∀ n ∈ d.weights P t, n ≤ reachBytes) : ∃ x, Pr x ∧ VRel (Xall w) (fun _ => none) w (.agg (E x)) (.agg cs) := by
  obtain ⟨fuel, hf⟩ := h
  obtain ⟨x, hx, hok⟩ := hr fuel _ d p hf hw
  refine ⟨x, hx, ?_⟩
  have := VRel.agg (X := Xall w) (pl := fun _ => none) (w := w) (E x) cs.toList (by simpa [Value.cells] using hok.1) (by
    intro i t' v ht hv
    obtain ⟨h1, h2, h3⟩ := hok.2 i t' v ht (by simpa [Value.cells] using hv)
    have := h1.vrel (pl := fun _ => none)
    rwa [h3] at this)
  simpa using this

theorem slice_cells {a : Option Addr} {l c : Nat} : (Value.slice a l c).cells = #[.slice a l c] := rfl

/-- What a law's contract says of a call. -/
theorem law_calls {f : FuncId} {ts : List T} {args : List Value} (h : FCv P f ts (.lit (.bool true))) (hl : ts.length = args.length)
    (hv : ∀ (i : Nat) (t : T) (v : Value), ts[i]? = some t → args[i]? = some v → VRel (Xall w) (fun _ => none) w t v) (hG : GOk (Xall w) w := by exact fun _ _ _ h => by cases h) :
    Calls P f args.toArray w fun e w' => e = .returned (.bool true) ∧ Below w.heap.size w w' := by
  refine (h (Xall w) w args (fun b off hx => hx) hG hl hv).mono ?_
  rintro e w' ⟨v, X', rfl, hx, he, hX, hr⟩
  rw [hr.lit_inv]
  exact ⟨rfl, he.os, he.tape, he.output, he.size, fun b hb => he.keep b hb (by omega)⟩

end
end Go.AW
