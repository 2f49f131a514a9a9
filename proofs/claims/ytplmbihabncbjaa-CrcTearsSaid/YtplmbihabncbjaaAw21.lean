/- Functions of data: what has to be shown of their code. -/
import Derived.Test.YtplmbihabncbjaaAw20
set_option linter.unusedVariables false
set_option linter.unusedSimpArgs false
namespace Go.AW
open Go

def resL (P : Program) (t : List (Nat × T)) (m : Mem) : List ResultVar → (List T → Prop) → Prop
  | [], K => K []
  | .tmp i :: r, K => forceT (look t i) fun v => resL P t m r fun vs => K (v :: vs)
  | .cell i ty :: r, K => loadA P m ty (look t i) fun v => resL P t m r fun vs => K (v :: vs)

def one (vs : List T) : T := match vs with | [v] => v | vs => .tup vs

def le1 (t o : T) : Prop := t = o ∨ (t = .lit (.slice none 0 0) ∧ ∃ sz, o = .sl none sz []) ∨ o = .dead
def outL : List T → List T → Prop
  | [], [] => True
  | x :: a, y :: b => chk (bvA x) (le1 (untokA x) y) ∧ outL a b
  | _, _ => False
def outOk (t o : T) : Prop := match t, o with
  | .tup a, .tup b => outL a b
  | t, o => chk (bvA t) (le1 (untokA t) o)

def retQ (P : Program) (fn : Func) (o : T) (e : Ex) (s : S) : Prop :=
  match e with
  | .normal => resL P s.t s.m fn.results.toList fun vs => outOk (one vs) o
  | .ret => resL P s.t s.m fn.results.toList fun vs => outOk (one vs) o
  | .exit _ => False

def initL : Nat → List T → List (Nat × T)
  | _, [] => []
  | k, t :: r => (k, t) :: initL (k + 1) r

theorem look_initL (k : Nat) (ts : List T) (i : Nat) : look (initL k ts) i = if k ≤ i then (match ts[i - k]? with | some t => t | none => .dead) else .dead := by
  induction ts generalizing k with
  | nil => simp [initL, look]
  | cons t r ih =>
    by_cases h : k = i
    · subst h; simp [initL, look]
    · simp only [initL, look, beq_ne h, cond_false, ih]
      by_cases h1 : k ≤ i
      · have h2 : k + 1 ≤ i := by omega
        have h3 : i - k = (i - (k + 1)) + 1 := by omega
        rw [if_pos h1, if_pos h2, h3, List.getElem?_cons_succ]
      · rw [if_neg h1, if_neg (by omega)]

section
variable {P : Program} {X0 : Xs} {W : Nat → Prop} {w0 : World} {X X' : Xs} {pl pl' : Pl} {w w' : World} {t : List (Nat × T)} {m m' : Mem} {n x : Nat} {a : Act}

def resF (tmps : Array Value) : ResultVar → Sem Value
  | .tmp t => pure (tmps.getD t undef)
  | .cell a t => do loadVar t (← asAddr (tmps.getD a undef))
theorem results_eq (fn : Func) (tmps : Array Value) : results fn tmps = (do let vs ← fn.results.mapM (resF tmps); pure (if h : vs.size = 1 then vs[0] else .tuple vs)) := by
  unfold results
  rfl

theorem resL_ok (henv : EnvOk X pl w t a) (hm : MRel X W pl w m) : ∀ (l : List ResultVar) (K : List T → Prop), resL P t m l K →
    ∃ (ts : List T) (vs : List Value), K ts ∧ ts.length = vs.length ∧ (∀ (i : Nat) (x : T) (v : Value), ts[i]? = some x → vs[i]? = some v → VRel X pl w x v) ∧
      (l.mapM (resF a.tmps)).run P w = .ok vs w
  | [], K, h => ⟨[], [], h, rfl, by simp, by simp⟩
  | .tmp i :: r, K, h => by
    simp only [resL] at h
    obtain ⟨ts, vs, hK, hl, hh, hr⟩ := resL_ok henv hm r _ (forceT_K h)
    refine ⟨_, a.tmps.getD i undef :: vs, hK, by simp [hl], ?_, ?_⟩
    · intro k y v hy hv
      cases k with
      | zero => simp only [List.getElem?_cons_zero, Option.some.injEq] at hy hv; subst hy hv; exact henv i
      | succ k => exact hh k y v (by simpa using hy) (by simpa using hv)
    · simp only [List.mapM_cons, resF, Sem.run_bind, Sem.run_pure, Result.andThen_ok, hr]
  | .cell i ty :: r, K, h => by
    simp only [resL] at h
    obtain ⟨v, y, hr1, hK1, hv1⟩ := loadA_ok hm (henv i) _ h
    obtain ⟨ts, vs, hK, hl, hh, hr⟩ := resL_ok henv hm r _ hK1
    refine ⟨_, v :: vs, hK, by simp [hl], ?_, ?_⟩
    · intro k y2 v2 hy hv
      cases k with
      | zero => simp at hy hv; subst hy hv; exact hv1
      | succ k => exact hh k y2 v2 (by simpa using hy) (by simpa using hv)
    · have hload : (resF a.tmps (.cell i ty)).run P w = .ok v w := by
        unfold resF
        cases hg : a.tmps.getD i undef with
        | pointer ad =>
          rw [hg] at hr1
          cases ad with
          | none => simp [Instr.loadAt, Instr.sureAddr] at hr1
          | some ad =>
            simp only [Instr.loadAt, Instr.sureAddr, Sem.run_bind, Sem.run_pure, Result.andThen_ok] at hr1
            simp only [hg, asAddr, Sem.run_bind, Sem.run_pure, Result.andThen_ok, hr1]
        | _ => rw [hg] at hr1; simp [Instr.loadAt, Instr.sureAddr] at hr1
      simp only [List.mapM_cons, Sem.run_bind, hload, Sem.run_pure, Result.andThen_ok, hr]

theorem le1_ok {t o : T} {v : Value} (h : VRel X (fun _ => none) w t v) (hl : le1 t o) : VRel X (fun _ => none) w o v := by
  rcases hl with rfl | ⟨rfl, sz, rfl⟩ | rfl
  · exact h
  · obtain rfl := h.lit_inv
    exact .sl none sz [] _ (.sl none sz [] none 0 (fun _ _ => undef) (Nat.le_refl _) (by simp) (by simp) (by simp)) (by simp)
  · exact .dead _

theorem outL_ok : ∀ (ts os : List T) (vs : List Value), ts.length = vs.length → (∀ (i : Nat) (x : T) (v : Value), ts[i]? = some x → vs[i]? = some v → VRel X pl w x v) → outL ts os →
    os.length = vs.length ∧ ∀ (i : Nat) (x : T) (v : Value), os[i]? = some x → vs[i]? = some v → VRel X (fun _ => none) w x v
  | [], [], vs, hl, hh, h => ⟨hl, by simp⟩
  | x :: a, y :: b, [], hl, hh, h => by simp at hl
  | x :: a, y :: b, v :: vs, hl, hh, h => by
    obtain ⟨h1, h2⟩ := h
    obtain ⟨hb, hle⟩ := chk_elim h1
    obtain ⟨g1, g2⟩ := outL_ok a b vs (by simpa using hl) (fun i x v hx hv => hh (i + 1) x v (by simpa using hx) (by simpa using hv)) h2
    refine ⟨by simp [g1], ?_⟩
    intro i x2 v2 hx hv
    cases i with
    | zero => simp at hx hv; subst hx hv; exact le1_ok (bv_none (hh 0 x v rfl rfl) hb) hle
    | succ i => exact g2 i x2 v2 (by simpa using hx) (by simpa using hv)
  | [], _ :: _, vs, hl, hh, h => h.elim
  | _ :: _, [], vs, hl, hh, h => h.elim

theorem outOk_ok {ts : List T} {vs : List Value} {o : T} (hl : ts.length = vs.length) (hh : ∀ (i : Nat) (x : T) (v : Value), ts[i]? = some x → vs[i]? = some v → VRel X pl w x v) (h : outOk (one ts) o) :
    VRel X (fun _ => none) w o (if h : vs.toArray.size = 1 then vs.toArray[0] else .tuple vs.toArray) := by
  have single : ∀ {t : T} {v : Value} {o : T}, VRel X pl w t v → outOk t o → VRel X (fun _ => none) w o v := by
    intro t v o hv ho
    unfold outOk at ho
    split at ho
    · cases hv with
      | tup _ vs hl hh =>
        obtain ⟨g1, g2⟩ := outL_ok (pl := pl) _ _ vs hl hh ho
        exact .tup _ vs g1 g2
    · obtain ⟨hb, hle⟩ := chk_elim ho
      exact le1_ok (bv_none hv hb) hle
  match ts, vs, hl with
  | [t], [v], _ =>
    have h1 := hh 0 t v rfl rfl
    simp only [one] at h
    simpa using single h1 h
  | [], [], _ =>
    simp only [one, outOk] at h
    split at h
    · rename_i a b e
      injection e with e; subst e
      obtain ⟨g1, g2⟩ := outL_ok (pl := pl) _ _ [] rfl hh h
      have := VRel.tup (X := X) (pl := fun _ => none) (w := w) _ [] g1 g2
      simpa using this
    · obtain ⟨hb, _⟩ := chk_elim h
      simp [bvA, bvOk] at hb
  | t1 :: t2 :: ts, v1 :: v2 :: vs, hl =>
    simp only [one, outOk] at h
    split at h
    · rename_i a b e
      injection e with e; subst e
      obtain ⟨g1, g2⟩ := outL_ok (pl := pl) _ _ _ hl hh h
      have := VRel.tup (X := X) (pl := fun _ => none) (w := w) _ _ g1 g2
      simpa using this
    · obtain ⟨hb, _⟩ := chk_elim h
      simp [bvA, bvOk] at hb

/-- A function of data, by its code. -/
theorem FCv_of_awp {f : FuncId} {fn : Func} {c : Code} {ts : List T} {o : T} (hf : P.funcs[f]? = some fn) (hb : fn.body = some c) (hn : ts.length ≤ fn.ntmps) (rl : List Nat)
    (h : awp P c (retQ P fn o) ⟨initL 0 ts, [], fn.ntmps, 0, rl⟩) : FCv P f ts o := by
  intro X w args hXin hlen hargs
  refine calls_of_wp hf hb ?_
  have hst : St X (fun b => w.heap.size ≤ b) w (initL 0 ts) [] fn.ntmps 0 X (fun _ => none) { tmps := args.toArray ++ Array.replicate (fn.ntmps - args.toArray.size) undef, defers := [] } w := by
    refine ⟨?_, ⟨by simp [Mem.get], by simp, by simp, fun b off h => ⟨hXin b off h, by simp⟩⟩, by simp; omega, by simp, .refl _ _, .refl _ _, fun _ _ h => .inl h, fun _ h => h, rfl⟩
    intro i
    rw [look_initL, if_pos (Nat.zero_le _), Nat.sub_zero]
    cases hi : ts[i]? with
    | none => exact .dead _
    | some t =>
      have hit : i < ts.length := (List.getElem?_eq_some_iff.1 hi).1
      have hia : i < args.length := by omega
      have := hargs i t args[i] hi (by simp [hia])
      simp only [Array.getD_eq_getD_getElem?]
      rw [Array.getElem?_append_left (by simpa using hia)]
      simpa [hia] using this
  refine wp_mono (awp_ok c _ _ _ _ h ⟨X, _, hst⟩) ?_
  rintro e a' w' ⟨ex, s', hex, hq, X', pl', hs'⟩
  have key : resL P s'.t s'.m fn.results.toList (fun vs => outOk (one vs) o) → a'.defers = [] ∧ ∃ v, (results fn a'.tmps).run P w' = .ok v w' ∧
      ∃ v2 X2, Ending.returned v = .returned v2 ∧ XMono X X2 w w' ∧ Ext (fun b => w.heap.size ≤ b) w w' ∧ (∀ b off, X2 b off → b < w'.heap.size ∧ (X b off ∨ w.heap.size ≤ b)) ∧ VRel X2 (fun _ => none) w' o v2 := by
    intro hr
    obtain ⟨rs, vs, hK, hl, hh, hrun⟩ := resL_ok hs'.env hs'.mem _ _ hr
    refine ⟨hs'.calm, _, ?_, _, X', rfl, hs'.mono, hs'.ext, fun b off hb => ⟨(hs'.mem.xin b off hb).1, hs'.news b off hb⟩, outOk_ok hl hh hK⟩
    have e1 : fn.results = fn.results.toList.toArray := by simp
    rw [results_eq, e1, List.mapM_toArray]
    simp only [Sem.run_bind, Sem.run_map, hrun, Result.andThen_ok, Sem.run_pure]
  cases ex <;> cases e <;> simp only [exRel] at hex
  · exact key hq
  · exact key hq
  · exact hq.elim

end
end Go.AW
