import Derived.Test.YtmobiphgmdigjaaAw24
import Derived.ChangeKeysEq
import Derived.Laws.StructEq
/- Rows of three numbers, compared. -/
set_option linter.unusedVariables false
set_option linter.unusedSimpArgs false
namespace Go.AW
open Go
section
variable {P : Program} (w : World)
def iv (n : Int) : Value := .int .i64 n
theorem run_part_int {e : TypeId} (he : P.underlying e = some (.int .i64)) (xs : Array Value) (i : Nat) (v : Value) (h : xs[i]? = some v) : (part e xs i).run P w = .ok v w := by
  unfold part
  have : isAggD (.int .i64) = false := rfl
  simp only [Sem.run_bind, run_isAggD he, this, Result.andThen_ok, Bool.false_eq_true, if_false, h]
  rfl
theorem eq_arr3 {t e : TypeId} {i : TypeInfo} (hu : P.underlying t = some (.array 3 e)) (hi : P.info? e = some i) (hsz : P.cellsOf e = 1) (he : P.underlying e = some (.int .i64)) (a b c a' b' c' : Int) :
    (Op.equal t (.agg #[iv a, iv b, iv c]) (.agg #[iv a', iv b', iv c'])).run P w = .ok (a == a' && (b == b' && c == c')) w := by
  unfold Op.equal
  show (Op.equalIn (9999 + 1) t _ _).run P w = _
  rw [run_equalIn_array w 9999 _ _ hu hi]
  rw [hsz]
  have r3 : List.range 3 = [0, 1, 2] := rfl
  rw [r3]
  have q : ∀ x y : Int, (Op.equalIn 9999 e (iv x) (iv y)).run P w = .ok (x == y) w := fun x y => run_equalIn_int w 9998 e .i64 .i64 x y he
  have p0 : ∀ x y z : Int, (part e #[iv x, iv y, iv z] 0).run P w = .ok (iv x) w := fun x y z => run_part_int w he _ _ _ rfl
  have p1 : ∀ x y z : Int, (part e #[iv x, iv y, iv z] 1).run P w = .ok (iv y) w := fun x y z => run_part_int w he _ _ _ rfl
  have p2 : ∀ x y z : Int, (part e #[iv x, iv y, iv z] 2).run P w = .ok (iv z) w := fun x y z => run_part_int w he _ _ _ rfl
  simp only [Op.eqItems, Nat.mul_one, Sem.run_bind, p0, p1, p2, Result.andThen_ok, q]
  cases e1 : a == a' <;> cases e2 : b == b' <;> cases e3 : c == c' <;> simp [Op.eqItems, p0, p1, p2, q, e1, e2, e3]

abbrev V := Int × Int × Int
def vR (v : V) : List T := [i64 v.1, i64 v.2.1, i64 v.2.2]
def vT (v : V) : T := .agg (vR v)
def vV (v : V) : List Value := [iv v.1, iv v.2.1, iv v.2.2]
theorem vR_vV (v : V) : vR v = (vV v).map .lit := rfl
def eqV (a b : V) : Bool := a.1 == b.1 && (a.2.1 == b.2.1 && a.2.2 == b.2.2)
theorem eqV_iff {a b : V} : eqV a b = true ↔ a = b := by
  obtain ⟨a1, a2, a3⟩ := a
  obtain ⟨b1, b2, b3⟩ := b
  simp [eqV]
theorem eqV_self (a : V) : eqV a a = true := eqV_iff.2 rfl
theorem guard_no {t : TypeId} (hg : P.eqGuardType P.depth t = false) (op : BinOp) (ox oy : Operand) (xs ys : Array Value) : (eqGuard op t ox oy (.agg xs) (.agg ys)).run P w = .ok () w := by
  unfold eqGuard
  cases op <;> simp [hg]

/-- Two such rows, compared. -/
theorem pure_eq3 {t e : TypeId} {i : TypeInfo} (hu : P.underlying t = some (.array 3 e)) (hi : P.info? e = some i) (hsz : P.cellsOf e = 1) (he : P.underlying e = some (.int .i64)) (hg : P.eqGuardType P.depth t = false) (ox oy : Operand) (a b : V) {K : T → Prop} (h : K (tb (eqV a b))) :
    pureA P (do eqGuard .eql t ox oy (.agg (vV a).toArray) (.agg (vV b).toArray); binOp .eql t (.agg (vV a).toArray) (.agg (vV b).toArray)) K := by
  refine ⟨.bool (eqV a b), fun w => ?_, h⟩
  have := eq_arr3 w hu hi hsz he a.1 a.2.1 a.2.2 b.1 b.2.1 b.2.2
  simp only [Sem.run_bind, guard_no w hg, Result.andThen_ok]
  show ((do pure (.bool (← Op.equal t _ _)) : Sem Value)).run P w = _
  simp only [Sem.run_bind]
  rw [show (Op.equal t (.agg (vV a).toArray) (.agg (vV b).toArray)).run P w = _ from this]
  rfl
theorem pure_ne3 {t e : TypeId} {i : TypeInfo} (hu : P.underlying t = some (.array 3 e)) (hi : P.info? e = some i) (hsz : P.cellsOf e = 1) (he : P.underlying e = some (.int .i64)) (hg : P.eqGuardType P.depth t = false) (ox oy : Operand) (a b : V) {K : T → Prop} (h : K (tb (!eqV a b))) :
    pureA P (do eqGuard .neq t ox oy (.agg (vV a).toArray) (.agg (vV b).toArray); binOp .neq t (.agg (vV a).toArray) (.agg (vV b).toArray)) K := by
  refine ⟨.bool (!eqV a b), fun w => ?_, h⟩
  have := eq_arr3 w hu hi hsz he a.1 a.2.1 a.2.2 b.1 b.2.1 b.2.2
  simp only [Sem.run_bind, guard_no w hg, Result.andThen_ok]
  show ((do pure (.bool (!(← Op.equal t _ _))) : Sem Value)).run P w = _
  simp only [Sem.run_bind]
  rw [show (Op.equal t (.agg (vV a).toArray) (.agg (vV b).toArray)).run P w = _ from this]
  rfl
end
end Go.AW

/- Arguments that are rows of numbers. -/
set_option linter.unusedVariables false
set_option linter.unusedSimpArgs false
namespace Go.AW
open Go

section
variable {H : Type} {enc : TypeId × Value → H} {P : Program} {w : World}

/-- An array of things that take a cell each. -/
theorem Rd.array {t e : TypeId} {n : Nat} {α : Type} {F : α → T} {Pr : α → Prop} (hu : P.underlying t = some (.array n e)) (hsz : P.cellsOf e = 1) (hct : P.cellsOf t = n) (he : Rd enc P w e (fun x => [F x]) Pr) :
    Rd enc P w t (fun l : List α => l.map F) (fun l => l.length = n ∧ ∀ x ∈ l, Pr x) := by
  intro fuel cs d ps h hw
  cases fuel with
  | zero => simp [DataW.trod] at h
  | succ fuel =>
    rw [DataW.trod_step] at h
    unfold DataW.trodStep at h
    simp only [hu, hsz, hct, Nat.mul_one] at h
    split at h
    · rename_i hl
      simp only [Option.map_eq_some_iff] at h
      obtain ⟨elems, hel, h⟩ := h
      simp only [Prod.mk.injEq] at h
      obtain ⟨rfl, rfl⟩ := h
      obtain ⟨h1, h2⟩ := mapM_get hel
      have hlen : elems.length = n := by simpa using h1
      have hone : ∀ i (hi : i < n), ∃ x : α, Pr x ∧ OkCells w [F x] ((cs.drop i).take 1) := by
        intro i hi
        have hg := h2 i i elems[i] (by simp [hi]) (by simp [hlen, hi])
        refine he fuel _ elems[i].1 elems[i].2 hg ?_
        intro k hk
        refine hw k ?_
        simp only [DataW.weights, hu]
        exact weightsAll_mem (List.mem_map.2 ⟨elems[i], by simp, rfl⟩) hk
      have hex : ∀ k, k ≤ n → ∃ xs : List α, xs.length = k ∧ ∀ (i : Nat) (x : α), xs[i]? = some x → Pr x ∧ OkCells w [F x] ((cs.drop i).take 1) := by
        intro k
        induction k with
        | zero => intro _; exact ⟨[], rfl, by simp⟩
        | succ k ih =>
          intro hk
          obtain ⟨xs, hxl, hxs⟩ := ih (by omega)
          obtain ⟨x, hx⟩ := hone k (by omega)
          refine ⟨xs ++ [x], by simp [hxl], fun i y hy => ?_⟩
          by_cases hi : i < xs.length
          · rw [List.getElem?_append_left hi] at hy; exact hxs i y hy
          · have hin : i = k := by
              have := (List.getElem?_eq_some_iff.1 hy).1
              simp at this; omega
            subst hin
            rw [List.getElem?_append_right (by omega), hxl] at hy
            simp at hy
            subst hy; exact hx
      obtain ⟨xs, hxl, hxs⟩ := hex n (Nat.le_refl _)
      refine ⟨xs, ⟨hxl, fun y hy => ?_⟩, by simp [hxl, hl], ?_⟩
      · obtain ⟨i, hi, rfl⟩ := List.getElem_of_mem hy
        exact (hxs i xs[i] (by simp [hi])).1
      · intro i t' v ht hv
        simp only [List.getElem?_map] at ht
        cases e2 : xs[i]? with
        | none => simp [e2] at ht
        | some x =>
          simp [e2] at ht
          subst ht
          have hok := (hxs i x e2).2
          refine hok.2 0 (F x) v rfl ?_
          rw [List.getElem?_take, if_pos (by decide), List.getElem?_drop]
          simpa using hv
    · cases h

/-- A vector. -/
theorem Rd.vec {t e : TypeId} (hu : P.underlying t = some (.array 3 e)) (hsz : P.cellsOf e = 1) (hct : P.cellsOf t = 3) (he : P.underlying e = some (.int .i64)) :
    Rd enc P w t (fun v : V => vR v) (fun v => (-9223372036854775808 ≤ v.1 ∧ v.1 ≤ 9223372036854775807) ∧ (-9223372036854775808 ≤ v.2.1 ∧ v.2.1 ≤ 9223372036854775807) ∧ (-9223372036854775808 ≤ v.2.2 ∧ v.2.2 ≤ 9223372036854775807)) := by
  refine (Rd.array (F := Go.AW.i64) hu hsz hct (Rd.i64 he)).conv ?_
  rintro l ⟨hl, hx⟩
  match l, hl with
  | [a, b, c], _ => exact ⟨(a, b, c), ⟨hx a (by simp), hx b (by simp), hx c (by simp)⟩, rfl⟩

theorem okWide_array {P : Program} {w : World} {r : Reach} {base : Nat} {t e : TypeId} {n : Nat} {v : Value} (ht : P.underlying t = some (.array n e)) (h : Value.okWide P w r base t v) : ∃ cs, v = .agg cs := by
  simp only [Value.okWide, ht] at h
  obtain ⟨cs, h1, h2, _⟩ := h
  exact ⟨cs, h1⟩

end
end Go.AW

/- A contract of an owned slice, taken at no slice at all. -/
set_option linter.unusedVariables false
set_option linter.unusedSimpArgs false
namespace Go.AW
open Go

theorem FCe.nil {E : Ending → Value → Prop} {P : Program} {f : FuncId} {ts : List T} {sz : Nat} {o : T} {m' : Mem} (h : FCe E P f (.sl (some 0) sz [] :: ts) [(0, .tok sz 0)] 1 o m') :
    FCe E P f (.lit (.slice none 0 0) :: ts) [] 0 o m' := by
  intro X W pl w args hm hW hpk hlen hargs
  have hpl : ∀ id, pl id = none := fun id => by
    cases e : pl id with
    | none => rfl
    | some l => exact absurd (hpk id l e) (Nat.not_lt_zero _)
  let pl' : Pl := fun id => if id = 0 then some (.tokn sz) else none
  have hp' : ∀ id l, pl' id = some l → id = 0 ∧ l = .tokn sz := by
    intro id l e
    simp only [pl'] at e
    split at e
    · rename_i h0; cases e; exact ⟨h0, rfl⟩
    · cases e
  have hmono : PMono pl pl' w w := fun id l e => by rw [hpl id] at e; cases e
  have hm' : MRel X W pl' w [(0, .tok sz 0)] := by
    refine ⟨?_, ?_, ?_, ?_, hm.glob⟩
    · intro id b hb
      simp only [Mem.get] at hb
      cases e : Nat.beq 0 id with
      | true =>
        obtain rfl := Nat.eq_of_beq_eq_true e
        simp only [e, cond_true, Option.some.injEq] at hb
        subst hb
        exact ⟨.tokn sz, by simp [pl'], .inl ⟨rfl, rfl⟩⟩
      | false => simp [e] at hb
    · intro id l b e hb
      obtain ⟨_, rfl⟩ := hp' id l e
      cases hb
    · intro i j l l' b e1 e2 _ _
      rw [(hp' i l e1).1, (hp' j l' e2).1]
    · intro b off hx
      refine ⟨(hm.xin b off hx).1, fun id l e => ?_⟩
      obtain ⟨_, rfl⟩ := hp' id l e
      trivial
  cases args with
  | nil => cases hlen
  | cons a rest =>
    refine Calls.mono (h X W pl' w (a :: rest) hm' hW (fun id l e => by rw [(hp' id l e).1]; exact Nat.one_pos) hlen ?_) ?_
    · intro i t v ht hv
      cases i with
      | zero =>
        simp only [List.getElem?_cons_zero, Option.some.injEq] at ht hv
        subst ht hv
        have h0 := hargs 0 _ _ rfl rfl
        rw [h0.lit_inv]
        refine .sl _ sz [] _ (.sl _ sz [] none 0 (fun _ _ => undef) (Nat.le_refl _) (by simp) (by simp) (by simp)) ?_
        intro id' e
        cases e
        exact ⟨.tokn sz, by simp [pl'], rfl, rfl, rfl⟩
      | succ i =>
        exact (hargs (i + 1) t v ht hv).mono (.refl _ _) hmono
    · rintro e w' ⟨v, X', p', h1, h2, h3, h4, h5, h6, h7⟩
      exact ⟨v, X', p', h1, h2, (fun id l e => by rw [hpl id] at e; cases e), h4, h5, h6, h7⟩
end Go.AW

/- Structs read as data; types that are met again within themselves. -/
set_option linter.unusedVariables false
set_option linter.unusedSimpArgs false
namespace Go.AW
open Go

/-- Read with so much fuel. -/
def RdN {H : Type} (n : Nat) (enc : TypeId × Value → H) (P : Program) (w : World) (t : TypeId) {α : Type} (E : α → List T) (Pr : α → Prop) : Prop :=
  ∀ (cs : List Value) (d : DataW H) (ps : List MemPlace), DataW.trod enc P w 0 (fun _ => true) true n t cs = some (d, ps) →
    (∀ n ∈ d.weights P t, n ≤ reachBytes) → ∃ x : α, Pr x ∧ OkCells w (E x) cs

section
variable {H : Type} {enc : TypeId × Value → H} {P : Program} {w : World}

theorem RdN.of {n : Nat} {t : TypeId} {α : Type} {E : α → List T} {Pr : α → Prop} (h : Rd enc P w t E Pr) : RdN n enc P w t E Pr := h n
theorem Rd.ofN {t : TypeId} {α : Type} {E : α → List T} {Pr : α → Prop} (h : ∀ n, RdN n enc P w t E Pr) : Rd enc P w t E Pr := h
theorem RdN.zero {t : TypeId} {α : Type} {E : α → List T} {Pr : α → Prop} : RdN 0 enc P w t E Pr := by
  intro cs d ps h hw
  simp [DataW.trod] at h
theorem RdN.conv {n : Nat} {t : TypeId} {α β : Type} {E : α → List T} {E' : β → List T} {Pr : α → Prop} {Pr' : β → Prop} (h : RdN n enc P w t E Pr) (hc : ∀ x, Pr x → ∃ y, Pr' y ∧ E' y = E x) : RdN n enc P w t E' Pr' := by
  intro cs d ps ht hw
  obtain ⟨x, hx, hok⟩ := h cs d ps ht hw
  obtain ⟨y, hy, e⟩ := hc x hx
  exact ⟨y, hy, e ▸ hok⟩

theorem RdN.slice {n : Nat} {t e : TypeId} {sz : Nat} {α : Type} {E : α → List T} {Pr : α → Prop} (hu : P.underlying t = some (.slice e)) (hsz : P.cellsOf e = sz) (hpos : 0 < sz) (he : RdN n enc P w e E Pr) :
    RdN (n + 1) enc P w t (fun l : List α => [.sl none sz (l.map E)]) (fun l => (∀ x ∈ l, Pr x) ∧ l.length * P.bytesOf e ≤ reachBytes) := by
  intro cs d ps h hw
  have fuel := n
  have keep : True := trivial
  show ∃ x : List α, ((∀ x_1 ∈ x, Pr x_1) ∧ x.length * P.bytesOf e ≤ reachBytes) ∧ OkCells w [.sl none sz (x.map E)] cs
  · clear fuel keep
    have nilcase : ∃ x : List α, ((∀ y ∈ x, Pr y) ∧ x.length * P.bytesOf e ≤ reachBytes) ∧ OkCells w [.sl none sz (x.map E)] [.slice none 0 0] :=
      ⟨[], ⟨by simp, by simp⟩, .one (.sl none sz [] none 0 (fun _ _ => undef) (Nat.le_refl _) (by simp) (by simp) (by simp)) rfl rfl⟩
    have main : ∀ a len cap, cs = [.slice (some a) len cap] → ∃ x : List α, ((∀ y ∈ x, Pr y) ∧ x.length * P.bytesOf e ≤ reachBytes) ∧ OkCells w [.sl none sz (x.map E)] cs := by
      rintro a len cap rfl
      simp only [DataW.trod, hu] at h
      split at h <;> try (cases h)
      rename_i hc
      simp only [Option.bind_eq_some_iff, Option.map_eq_some_iff] at h
      obtain ⟨elems, hel, rest, hrest, h⟩ := h
      simp only [Prod.mk.injEq] at h
      obtain ⟨rfl, rfl⟩ := h
      obtain ⟨h1, h2⟩ := mapM_get hel
      have hlen : elems.length = len := by simpa using h1
      have hel2 : ∀ (i : Nat), i < len → ∃ x : α, Pr x ∧ ∃ cs : List Value, w.cells? 0 (a.add (i * sz)) sz = some cs ∧ OkCells w (E x) cs := by
        intro i hi
        have hg := h2 i i elems[i] (by simp [hi]) (by simp [hlen, hi])
        rw [hsz] at hg
        simp only [Option.bind_eq_some_iff] at hg
        obtain ⟨cs2, hcs2, hg⟩ := hg
        obtain ⟨x, hx, hok⟩ := he cs2 elems[i].1 elems[i].2 hg (by
          intro n hn
          refine hw n ?_
          simp only [DataW.weights, hu, List.mem_cons, List.mem_append]
          exact .inr (.inl (weightsAll_mem (List.mem_map.2 ⟨elems[i], by simp, rfl⟩) hn)))
        exact ⟨x, hx, cs2, hcs2, hok⟩
      have hex : ∃ xs : List α, xs.length = len ∧ ∀ (i : Nat) (x : α), xs[i]? = some x → Pr x ∧ ∃ cs : List Value, w.cells? 0 (a.add (i * sz)) sz = some cs ∧ OkCells w (E x) cs := by
        have : ∀ n, n ≤ len → ∃ xs : List α, xs.length = n ∧ ∀ (i : Nat) (x : α), xs[i]? = some x → Pr x ∧ ∃ cs : List Value, w.cells? 0 (a.add (i * sz)) sz = some cs ∧ OkCells w (E x) cs := by
          intro n
          induction n with
          | zero => intro _; exact ⟨[], rfl, by simp⟩
          | succ n ih =>
            intro hn
            obtain ⟨xs, hxl, hxs⟩ := ih (by omega)
            obtain ⟨x, hx⟩ := hel2 n (by omega)
            refine ⟨xs ++ [x], by simp [hxl], fun i y hy => ?_⟩
            by_cases hi : i < xs.length
            · rw [List.getElem?_append_left hi] at hy; exact hxs i y hy
            · have hin : i = n := by
                have := (List.getElem?_eq_some_iff.1 hy).1
                simp at this; omega
              subst hin
              rw [List.getElem?_append_right (by omega), hxl] at hy
              simp at hy
              subst hy; exact hx
        exact this len (Nat.le_refl _)
      obtain ⟨xs, hxl, hxs⟩ := hex
      have hget : ∀ (i : Nat) (row : List T), (xs.map E)[i]? = some row → ∃ x, xs[i]? = some x ∧ row = E x := by
        intro i row hrow
        simp only [List.getElem?_map] at hrow
        cases hx : xs[i]? with
        | none => simp [hx] at hrow
        | some x => simp [hx] at hrow; exact ⟨x, rfl, hrow.symm⟩
      -- where the rows lie
      have hcell : ∀ (i : Nat) (x : α), xs[i]? = some x → a.spot = none ∧ (E x).length = sz ∧ ∀ (j : Nat), j < sz → ∃ v t, w.cell? ⟨a.block, a.off + i * sz + j, none⟩ = some v ∧ (E x)[j]? = some t ∧ BRel (Xall w) w t v ∧ v.oneCell' = true ∧ a.block < w.heap.size := by
        intro i x hx
        obtain ⟨_, cs2, hcs2, hok⟩ := hxs i x hx
        have hspot : a.spot = none := by
          have h3 : ((List.range sz).mapM fun k => w.cell? ((a.add (i * sz)).add k)) = some cs2 := by
            unfold World.cells? at hcs2
            rwa [if_pos (Nat.zero_le _)] at hcs2
          obtain ⟨g1, g2⟩ := mapM_get h3
          have h0 : 0 < cs2.length := by rw [g1]; simpa using hpos
          have h4 := g2 0 0 cs2[0] (by simp [hpos]) (by simp [h0])
          -- the first row's first cell bears no spot
          obtain ⟨x0, hx0⟩ : ∃ x0, xs[0]? = some x0 := by
            have : i < xs.length := (List.getElem?_eq_some_iff.1 hx).1
            exact ⟨xs[0], by simp⟩
          obtain ⟨_, cs0, hcs0, hok0⟩ := hxs 0 x0 hx0
          have h5 : ((List.range sz).mapM fun k => w.cell? ((a.add (0 * sz)).add k)) = some cs0 := by
            unfold World.cells? at hcs0
            rwa [if_pos (Nat.zero_le _)] at hcs0
          obtain ⟨g3, g4⟩ := mapM_get h5
          have h6 : 0 < cs0.length := by rw [g3]; simpa using hpos
          have h7 := g4 0 0 cs0[0] (by simp [hpos]) (by simp [h6])
          have := (cell_spot h7).1
          simpa [Addr.add] using this
        have hadd : a.add (i * sz) = ⟨a.block, a.off + i * sz, none⟩ := by
          obtain ⟨b, o, sp⟩ := a
          simp only at hspot
          subst hspot
          rw [Addr.add_lit]
        rw [hadd] at hcs2
        obtain ⟨g1, g2⟩ := cells?_some rfl hcs2
        refine ⟨hspot, by rw [hok.1, g1], fun j hj => ?_⟩
        have hjl : j < cs2.length := by omega
        have hjE : j < (E x).length := by rw [hok.1]; exact hjl
        have h8 := g2 j cs2[j] (by simp [hjl])
        obtain ⟨k1, k2, _⟩ := hok.2 j (E x)[j] cs2[j] (by simp [hjE]) (by simp [hjl])
        exact ⟨cs2[j], (E x)[j], h8, by simp [hjE], k1, k2, (cell_spot h8).2⟩
      refine ⟨xs, ⟨fun y hy => ?_, ?_⟩, .one ?_ rfl rfl⟩
      · obtain ⟨i, hi, rfl⟩ := List.getElem_of_mem hy
        exact (hxs i xs[i] (by simp [hi])).1
      · have h9 : (elems.length + rest.length) * P.bytesOf e ≤ reachBytes := by
          have := hw ((elems.length + rest.length) * P.bytesOf e) (by simp only [DataW.weights, hu, List.length_map]; exact List.mem_cons_self)
          exact this
        rw [hxl, ← hlen]
        refine Nat.le_trans (Nat.mul_le_mul_right _ ?_) h9
        omega
      · have hb := BRel.sl (X := Xall w) (w := w) none sz (xs.map E) (some a) cap (fun i j => (w.cell? ⟨a.block, a.off + i * sz + j, none⟩).getD undef) (by simp [hxl]; omega) ?_ ?_ ?_
        · rw [List.length_map, hxl] at hb; exact hb
        · intro i row hrow
          obtain ⟨x, hx, rfl⟩ := hget i row hrow
          exact (hcell i x hx).2.1
        · intro i row hrow
          obtain ⟨x, hx, rfl⟩ := hget i row hrow
          obtain ⟨hs, hl2, hc2⟩ := hcell i x hx
          refine ⟨a.block, a.off, by rw [← hs], fun j hj => ?_⟩
          obtain ⟨v, t, hv, _, _, ho, hlt⟩ := hc2 j hj
          exact ⟨hlt, by simp [hv], by simp [hv, ho]⟩
        · intro i row j t hrow ht
          obtain ⟨x, hx, rfl⟩ := hget i row hrow
          obtain ⟨hs, hl2, hc2⟩ := hcell i x hx
          have hj : j < sz := by rw [← hl2]; exact (List.getElem?_eq_some_iff.1 ht).1
          obtain ⟨v, t', hv, ht', hbr, _, _⟩ := hc2 j hj
          rw [ht'] at ht
          obtain rfl := Option.some.inj ht
          simp [hv]; exact hbr
    have h' := h
    simp only [DataW.trod, hu] at h'
    split at h' <;> try (cases h'; done)
    all_goals first
      | exact nilcase
      | (exact main _ _ _ rfl)
      | (rename_i heq; cases heq)
      | (simp_all; done)


/-- A struct's fields, from a place on. -/
def RdFs {H : Type} (n len : Nat) (enc : TypeId × Value → H) (P : Program) (w : World) (fs : List Field) (off : Nat) {α : Type} (E : α → List T) (Pr : α → Prop) : Prop :=
  ∀ (cs : List Value) (xs : List (DataW H × List MemPlace)), cs.length = len →
    (fs.mapM fun f => DataW.trod enc P w 0 (fun _ => true) true n f.type ((cs.drop f.offset).take (P.cellsOf f.type))) = some xs →
    (∀ n ∈ DataW.weightsEach P (fs.map (·.type)) (xs.map (·.1)), n ≤ reachBytes) → ∃ x : α, Pr x ∧ OkCells w (E x) (cs.drop off)
theorem RdFs.nil {n len : Nat} : RdFs n len enc P w [] len (fun _ : Unit => []) (fun _ => True) := by
  intro cs xs hl h hw
  refine ⟨(), trivial, ?_⟩
  rw [List.drop_of_length_le (by omega)]
  exact ⟨rfl, by simp⟩
theorem RdFs.cons {n len off sz : Nat} {f : Field} {fs : List Field} {α β : Type} {E : α → List T} {Pr : α → Prop} {E' : β → List T} {Pr' : β → Prop} (ho : f.offset = off) (hs : P.cellsOf f.type = sz)
    (h : RdN n enc P w f.type E Pr) (hr : RdFs n len enc P w fs (off + sz) E' Pr') : RdFs n len enc P w (f :: fs) off (fun p : α × β => E p.1 ++ E' p.2) (fun p => Pr p.1 ∧ Pr' p.2) := by
  intro cs xs hl hm hw
  simp only [List.mapM_cons, Option.bind_eq_bind, Option.pure_def, Option.bind_eq_some_iff, Option.some.injEq] at hm
  obtain ⟨x, hx, ys, hys, rfl⟩ := hm
  simp only [List.map_cons, DataW.weightsEach, List.mem_append] at hw
  obtain ⟨a, ha, hok⟩ := h _ x.1 x.2 hx (fun n hn => hw n (.inl hn))
  obtain ⟨b, hb, hok'⟩ := hr cs ys hl hys (fun n hn => hw n (.inr hn))
  refine ⟨(a, b), ⟨ha, hb⟩, ?_⟩
  rw [ho, hs] at hok
  have hcut : cs.drop off = (cs.drop off).take sz ++ cs.drop (off + sz) := by
    rw [← List.drop_drop, List.take_append_drop]
  rw [hcut]
  obtain ⟨g1, g2⟩ := hok
  obtain ⟨k1, k2⟩ := hok'
  refine ⟨by rw [List.length_append, List.length_append, g1, k1], fun i t v ht hv => ?_⟩
  by_cases hi : i < (E a).length
  · rw [List.getElem?_append_left hi] at ht
    rw [List.getElem?_append_left (by rw [← g1]; exact hi)] at hv
    exact g2 i t v ht hv
  · rw [List.getElem?_append_right (Nat.le_of_not_lt hi)] at ht
    rw [List.getElem?_append_right (by rw [← g1]; exact Nat.le_of_not_lt hi), ← g1] at hv
    exact k2 _ t v ht hv
theorem RdN.struct {n len : Nat} {t : TypeId} {fs : Array Field} {α : Type} {E : α → List T} {Pr : α → Prop} (hu : P.underlying t = some (.struct fs)) (hct : P.cellsOf t = len)
    (h : RdFs n len enc P w fs.toList 0 E Pr) : RdN (n + 1) enc P w t E Pr := by
  intro cs d ps ht hw
  rw [DataW.trod_step] at ht
  unfold DataW.trodStep at ht
  simp only [hu, hct] at ht
  split at ht
  · rename_i hl
    simp only [Option.map_eq_some_iff, Prod.mk.injEq] at ht
    obtain ⟨xs, hxs, rfl, rfl⟩ := ht
    simp only [DataW.weights, hu] at hw
    have := h cs xs hl hxs hw
    rwa [List.drop_zero] at this
  · cases ht
end
end Go.AW

/- A call that is given a slice's memory for good. -/
set_option linter.unusedVariables false
set_option linter.unusedSimpArgs false
namespace Go.AW
open Go

theorem FCm_give {P : Program} {f : FuncId} {lo len sz : Nat} {rows : List (List T)} {t' o : T} (hl : lend [(0, .own sz rows)] (.sref 0 lo len) (fun t => t = t')) (h : FCv P f [t'] o) :
    FCm P f [.sref 0 lo len] [(0, .own sz rows)] 1 o [] := by
  intro X W pl w args hm hW hpk hlen hargs
  match args, hlen with
  | [a], _ =>
    let X2 : Xs := fun b off => X b off ∨ (W b ∧ b < w.heap.size)
    have old : XMono X X2 w w := fun b off hx => ⟨.inl hx, rfl⟩
    obtain ⟨t2, ht2, hv2⟩ := lend_ok2 old hm (fun id _ l b off hl hb => .inr (hm.placed id l b hl hb)) (hargs 0 _ _ rfl rfl) hl
    subst ht2
    refine Calls.mono (h X2 w [a] (fun b off hx => hx.elim (fun hx => (hm.xin b off hx).1) (fun hx => hx.2)) (hm.glob.mono old) rfl ?_) ?_
    · intro i t v ht hv
      cases i with
      | zero => cases ht; cases hv; exact hv2
      | succ i => simp at ht
    · rintro e w' ⟨v, X', he, hx, hext, hnew, hv⟩
      have hx' : XMono X X' w w' := old.trans hx
      refine ⟨v, X', fun id => if id = 0 then some .gone else none, he, hx', ?_, ?_, ?_, ?_, ?_⟩
      · intro id l hid
        have h0 : id = 0 := by have := hpk id l hid; omega
        subst h0
        obtain ⟨l0, hl0, hok⟩ := hm.blk 0 (.own sz rows) rfl
        rw [hid] at hl0
        cases hl0
        refine ⟨⟨.gone, rfl, ?_⟩, fun b sz e h2 => by cases h2⟩
        rcases hok with ⟨rfl, _⟩ | ⟨b, rfl, _⟩
        · exact .inr rfl
        · exact .inr rfl
      · exact ⟨hext.size, hext.os, hext.output, hext.tape, fun b hb hnw => hext.keep b hb (by omega)⟩
      · refine ⟨by simp [Mem.get], ?_, ?_, ?_, hm.glob.mono hx'⟩
        · intro id l b e hb
          split at e
          · cases e; cases hb
          · cases e
        · intro i j l l' b e1 e2 h1 h2
          split at e1
          · cases e1; cases h1
          · cases e1
        · intro b off hxb
          refine ⟨(hnew b off hxb).1, fun id l e => ?_⟩
          split at e
          · cases e; trivial
          · cases e
      · intro b off hxb
        rcases (hnew b off hxb).2 with (h1 | h1) | h1
        · exact .inl h1
        · exact .inr h1.1
        · exact .inr (hW b h1)
      · exact hv.mono (.refl _ _) (fun id l e => by cases e)
end Go.AW
