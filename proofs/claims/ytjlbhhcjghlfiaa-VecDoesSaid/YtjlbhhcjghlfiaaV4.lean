/- Vectors: totals. -/
import Derived.Test.YtjlbhhcjghlfiaaV3
set_option linter.unusedVariables false
set_option linter.unusedSimpArgs false
namespace Go.AW.Vec
open Go Go.AW Go.Proofs
set_option maxRecDepth 10000
set_option pp.maxSteps 900

def psum (sg : List Int) (l : List V) (r : Nat) : Nat → Int
  | 0 => 0
  | i + 1 => psum sg l r i + sg.getD (i % sg.length) 0 * cmp (l.getD i (0, 0, 0)) r
structure Signs (sg : List Int) : Prop where
  any : 0 < sg.length
  one : ∀ s ∈ sg, s = 1 ∨ s = -1
  few : sg.length ≤ 1000000
theorem Signs.get {sg : List Int} (h : Signs sg) (i : Nat) : ∃ s, sg[i % sg.length]? = some s ∧ sg.getD (i % sg.length) 0 = s ∧ (s = 1 ∨ s = -1) := by
  have hlt : i % sg.length < sg.length := Nat.mod_lt _ h.any
  refine ⟨sg[i % sg.length], List.getElem?_eq_getElem hlt, ?_, h.one _ (List.getElem_mem hlt)⟩
  rw [List.getD_eq_getElem?_getD, List.getElem?_eq_getElem hlt]; rfl
theorem psum_bound {sg : List Int} (h : Signs sg) {l : List V} (hl : ∀ v ∈ l, okV v) (r : Nat) : ∀ i, i ≤ l.length → -(9223372036854775808 * (i : Int)) ≤ psum sg l r i ∧ psum sg l r i ≤ 9223372036854775808 * (i : Int)
  | 0, _ => by simp [psum]
  | i + 1, hi => by
    obtain ⟨h1, h2⟩ := psum_bound h hl r i (by omega)
    obtain ⟨s, _, e, hs⟩ := h.get i
    have hc := cmp_ok (hl l[i] (List.getElem_mem (by omega))) r
    have hg : l.getD i (0, 0, 0) = l[i] := by rw [List.getD_eq_getElem?_getD, List.getElem?_eq_getElem (by omega)]; rfl
    simp only [psum, e, hg]
    obtain ⟨c1, c2⟩ := hc
    rcases hs with rfl | rfl <;> omega

def tot (sg : List Int) (l : List V) (r : Nat) : Int := psum sg l r l.length
def totOk (sg : List Int) (l : List V) : Bool := okB (tot sg l 0) && okB (tot sg l 1) && okB (tot sg l 2)
def totV (sg : List Int) (l : List V) : V := if totOk sg l = true then (tot sg l 0, tot sg l 1, tot sg l 2) else (0, 0, 0)
def totE (sg : List Int) (l : List V) : Int := if totOk sg l = true then 0 else 6
theorem totOk_no {sg : List Int} {l : List V} {r : Nat} (hr : r < 3) (h : okB (tot sg l r) = false) : totOk sg l = false := by
  unfold totOk
  match r, hr with
  | 0, _ => rw [h]; rfl
  | 1, _ => rw [h]; cases okB (tot sg l 0) <;> rfl
  | 2, _ => rw [h]; cases okB (tot sg l 0) <;> cases okB (tot sg l 1) <;> rfl
theorem totOk_yes {sg : List Int} {l : List V} (h : ∀ r, r < 3 → okB (tot sg l r) = true) : totOk sg l = true := by
  unfold totOk
  rw [h 0 (by decide), h 1 (by decide), h 2 (by decide)]; rfl

def vRows (l : List V) : List (List T) := l.map vR
def sRows (l : List Int) : List (List T) := l.map fun s => [i64 s]
theorem vRows_get {l : List V} {i : Nat} {v : V} (h : l[i]? = some v) : (vRows l)[i]? = some (vR v) := by simp only [vRows, List.getElem?_map, h, Option.map_some]
theorem sRows_get {l : List Int} {i : Nat} {v : Int} (h : l[i]? = some v) : (sRows l)[i]? = some [i64 v] := by simp only [sRows, List.getElem?_map, h, Option.map_some]
theorem vRows_len (l : List V) : (vRows l).length = l.length := List.length_map _
theorem sRows_len (l : List Int) : (sRows l).length = l.length := List.length_map _
theorem wR_lt (x : Nat) (w : Int) : blkLt x (.own 2 [wR w]) := by
  intro row hr c hc
  obtain rfl := List.mem_singleton.1 hr
  simp only [wR, List.mem_cons, List.not_mem_nil, or_false] at hc
  rcases hc with rfl | rfl <;> trivial
/-- What is summed so far. -/
def acc (sg : List Int) (l : List V) (r : Nat) : V := (if 0 < r then tot sg l 0 else 0, if 1 < r then tot sg l 1 else 0, if 2 < r then tot sg l 2 else 0)

theorem acc_step (sg : List Int) (l : List V) (r : Nat) (hr : r < 3) (h : okB (tot sg l r) = true) : spl (vR (acc sg l r)) (0 + ((r : Nat) : Int).toNat * 1) [i64 (num (tot sg l r))] = vR (acc sg l (r + 1)) := by
  have e : num (tot sg l r) = tot sg l r := by unfold num; rw [h]; rfl
  rw [e]
  match r, hr with
  | 0, _ => rfl
  | 1, _ => rfl
  | 2, _ => rfl

theorem total_law (sg : List Int) (l : List V) (hs : Signs sg) (hl : ∀ v ∈ l, okV v) (hlen : l.length ≤ 1000000000) :
    FCv Try.prog 23 [.sl none 1 (sRows sg), .sl none 3 (vRows l)] (.tup [vT (totV sg l), i64 (totE sg l)]) := by
  refine FCv_of_awp (fn := Try.f23) (c := bodyC Try.f23) Try.func23 rfl (of_decide_eq_true rfl) [] ?_
  conv => whnf
  refine loop_intro (fun q : {q : Fin 4 // ∀ r, r < q.val → okB (tot sg l r) = true} => ⟨[(0, .sl none 1 (sRows sg)), (1, .sl none 3 (vRows l)), (4, .ptr 0 0 0), (6, .ptr 1 0 0), (12, i64 q.1.val)],
    [(0, .own 3 [vR (0, 0, 0)]), (1, .own 3 [vR (acc sg l q.1.val)])], 49, 2, []⟩) (fun q => 3 - q.1) ⟨0, fun r h => absurd h (Nat.not_lt_zero r)⟩ ?_ ?_
  · refine Wk.intro [] rfl (fun p hp => by cases hp) ⟨.same rfl trivial, .same rfl trivial, .same rfl (by exact rfl), .same rfl (by exact rfl), .same rfl trivial, trivial⟩
      ⟨⟨rfl, .inl ⟨rfl, vR_lt _ _⟩⟩, ⟨rfl, .inl ⟨rfl, vR_lt _ _⟩⟩, trivial⟩
  rintro ⟨r, hr⟩
  dsimp only
  conv => whnf
  refine br_intro (fun h => ?_) (fun h => ?_)
  · rw [h]
    have h3 : r.val < 3 := by have := of_decide_eq_true h; omega
    conv => whnf
    refine loop_intro (fun i : Fin (l.length + 1) => ⟨[(0, .sl none 1 (sRows sg)), (1, .sl none 3 (vRows l)), (4, .ptr 0 0 0), (6, .ptr 1 0 0), (12, i64 r.val), (7, i64 r.val), (8, .ptr 2 0 0), (16, i64 l.length), (17, i64 i.val)],
      [(0, .own 3 [vR (0, 0, 0)]), (1, .own 3 [vR (acc sg l r.val)]), (2, .own 2 [wR (psum sg l r.val i.val)])], 49, 3, []⟩) (fun i => l.length - i) 0 ?_ ?_
    · refine Wk.intro [] rfl (fun p hp => by cases hp) ⟨.same rfl trivial, .same rfl trivial, .same rfl (by exact rfl), .same rfl (by exact rfl), .same rfl trivial, .same rfl trivial, .same rfl (by exact rfl), .same ?_ trivial, .same rfl trivial, trivial⟩
        ⟨⟨rfl, .inl ⟨rfl, vR_lt _ _⟩⟩, ⟨rfl, .inl ⟨rfl, vR_lt _ _⟩⟩, ⟨rfl, .inl ⟨rfl, wR_lt _ _⟩⟩, trivial⟩
      exact i64_cong (congrArg _ (vRows_len l))
    intro i
    conv => whnf
    refine br_intro (fun h => ?_) (fun h => ?_)
    · rw [h]
      have hi : i.val < l.length := by have := of_decide_eq_true h; omega
      have hv : l[i.val]? = some l[i.val] := List.getElem?_eq_getElem hi
      conv => whnf
      refine ⟨by omega, nthK_intro (vRows_get hv) ?_⟩
      conv => whnf
      refine ⟨⟨by omega, by omega⟩, ?_⟩
      conv => whnf
      refine nthK_intro (vR_get l[i.val] r.val h3) ?_
      conv => whnf
      have hany := hs.any
      have hfew := hs.few
      refine ⟨by rw [sRows_len]; omega, ?_⟩
      conv => whnf
      have e : ((i.val : Nat) : Int).tmod ((sRows sg).length : Int) = ((i.val % sg.length : Nat) : Int) := by rw [sRows_len]; exact (Int.ofNat_tmod _ _).symm
      rw [e]
      obtain ⟨s, hs1, hs2, hs3⟩ := hs.get i.val
      refine ⟨by omega, nthK_intro (sRows_get (by rw [Int.toNat_natCast]; exact hs1)) ?_⟩
      conv => whnf
      obtain ⟨p1, p2⟩ := psum_bound hs hl r.val i.val (by omega)
      refine ⟨_, wide_add (psum sg l r.val i.val) (cmp l[i.val] r.val) s hs3 (by omega) (by omega) (cmp_ok (hl _ (List.getElem_mem hi)) _), ?_⟩
      conv => whnf
      refine Nx.intro ⟨i + 1, by omega⟩ (by simp only; omega) ?_
      refine Wk.intro [] rfl (fun p hp => by cases hp) ⟨.same rfl trivial, .same rfl trivial, .same rfl (by exact rfl), .same rfl (by exact rfl), .same rfl trivial, .same rfl trivial, .same rfl (by exact rfl), .same rfl trivial, .same ?_ trivial, trivial⟩
        ⟨⟨rfl, .inl ⟨rfl, vR_lt _ _⟩⟩, ⟨rfl, .inl ⟨rfl, vR_lt _ _⟩⟩, ⟨rfl, .inl ⟨?_, wR_lt _ _⟩⟩, trivial⟩
      · exact i64_cong (i64w (by simp only; omega) (by simp only; omega) (by simp only; omega))
      · refine congrArg (fun z => some (Blk.own 2 [wR z])) ?_
        show _ = psum sg l r.val (i.val + 1)
        simp only [psum, hs2]
        rw [List.getD_eq_getElem?_getD, hv]; rfl
    · rw [h]
      have hi : i.val = l.length := by have := of_decide_eq_false h; omega
      conv => whnf
      obtain ⟨p1, p2⟩ := psum_bound hs hl r.val i.val (by omega)
      have ei : psum sg l r.val i.val = tot sg l r.val := by rw [hi]; rfl
      rw [ei] at p1 p2 ⊢
      refine ⟨_, wide_number (tot sg l r.val) (by omega) (by omega), ?_⟩
      conv => whnf
      cases hok : okB (tot sg l r.val) with
      | false =>
        conv => whnf
        have hno := totOk_no h3 hok
        have e1 : totV sg l = (0, 0, 0) := by unfold totV; rw [hno]; rfl
        have e2 : totE sg l = 6 := by unfold totE; rw [hno]; rfl
        rw [e1, e2]
        exact ⟨Or.inl rfl, Or.inl rfl, trivial⟩
      | true =>
        conv => whnf
        refine ⟨⟨by omega, by omega⟩, ?_⟩
        conv => whnf
        refine chk_intro (ble_of (by show 0 + ((r.val : Nat) : Int).toNat * 1 + 1 ≤ 3; omega)) ?_
        conv => whnf
        refine Nx.intro ⟨⟨r.val + 1, by omega⟩, fun k hk => ?_⟩ (by simp only; omega) ?_
        · simp only at hk
          by_cases e : k = r.val
          · subst e; exact hok
          · exact hr k (by omega)
        refine Wk.intro [] rfl (fun p hp => by cases hp) ⟨.same rfl trivial, .same rfl trivial, .same rfl (by exact rfl), .same rfl (by exact rfl), .same ?_ trivial, trivial⟩
          ⟨⟨rfl, .inl ⟨rfl, vR_lt _ _⟩⟩, ⟨rfl, .inl ⟨?_, vR_lt _ _⟩⟩, trivial⟩
        · exact i64_cong (i64w (by simp only; omega) (by simp only; omega) (by simp only; omega))
        · exact congrArg (fun z => some (Blk.own 3 [z])) (acc_step sg l r.val h3 hok)
  · rw [h]
    have h3 : r.val = 3 := by have := of_decide_eq_false h; omega
    conv => whnf
    have hy := totOk_yes fun k hk => hr k (by omega)
    have e1 : totV sg l = (tot sg l 0, tot sg l 1, tot sg l 2) := by unfold totV; rw [hy]; rfl
    have e2 : totE sg l = 0 := by unfold totE; rw [hy]; rfl
    have e3 : acc sg l r.val = (tot sg l 0, tot sg l 1, tot sg l 2) := by rw [h3]; rfl
    rw [e1, e2, e3]
    exact ⟨Or.inl rfl, Or.inl rfl, trivial⟩
end Go.AW.Vec
