import Derived.Test.YtmobiphgmdigjaaAw20
import Derived.Recover
/- Functions of data: what has to be shown of their code. -/
set_option linter.unusedVariables false
set_option linter.unusedSimpArgs false
namespace Go.AW
open Go

def resL (P : Program) (t : List (Nat × T)) (m : Mem) : List ResultVar → (List T → Prop) → Prop
  | [], K => K []
  | .tmp i :: r, K => forceT (look t i) fun v => resL P t m r fun vs => K (v :: vs)
  | .cell i ty :: r, K => loadA P m ty (look t i) fun v => resL P t m r fun vs => K (v :: vs)

def one (vs : List T) : T := match vs with | [v] => v | vs => .tup vs

def le0 (t o : T) : Prop := t = o ∨ (t = .lit (.slice none 0 0) ∧ ∃ sz, o = .sl none sz []) ∨ o = .dead
def leCs : List T → List T → Prop
  | [], [] => True
  | a :: r, b :: s => le0 a b ∧ leCs r s
  | _, _ => False
def leAgg (t o : T) : Prop := match t, o with
  | .agg a, .agg b => leCs a b
  | _, _ => False
def le1 (t o : T) : Prop := t = o ∨ (t = .lit (.slice none 0 0) ∧ ∃ sz, o = .sl none sz []) ∨ o = .dead ∨ leAgg t o
def outL (m : Mem) : List T → List T → Prop
  | [], [] => True
  | x :: a, y :: b => lend m x (fun x' => le1 x' y) ∧ outL m a b
  | _, _ => False
def outOk (m : Mem) (t o : T) : Prop := match t, o with
  | .tup a, .tup b => outL m a b
  | t, o => lend m t fun t' => le1 t' o

def retQ (P : Program) (fn : Func) (o : T) (e : Ex) (s : S) : Prop :=
  match e with
  | .normal => resL P s.t s.m fn.results.toList fun vs => outOk s.m (one vs) o
  | .ret => resL P s.t s.m fn.results.toList fun vs => outOk s.m (one vs) o
  | .exit _ => False
  | .pan _ => False

/-- A result, of a function that changes memory. -/
def resS (σ : List (Nat × Nat)) (m : Mem) (x : T) (K : T → Prop) : Prop := match domT σ x with
  | true => forceT (renT σ x) K
  | false => chk ((idsT x).all fun i => !asHas σ i) (lend m x K)
def outLS (σ : List (Nat × Nat)) (m : Mem) : List T → List T → Prop
  | [], [] => True
  | x :: a, y :: b => resS σ m x (fun x' => le1 x' y) ∧ outLS σ m a b
  | _, _ => False
def outS (σ : List (Nat × Nat)) (m : Mem) (t o : T) : Prop := match t, o with
  | .tup a, .tup b => outLS σ m a b
  | t, o => resS σ m t fun t' => le1 t' o
def keepB (σ : List (Nat × Nat)) : Nat → Bool
  | 0 => true
  | k + 1 => asHas σ k && (Nat.beq (asGet σ k) k && keepB σ k)
def memKeep (σ : List (Nat × Nat)) (m : Mem) : Mem → Prop
  | [] => True
  | (j, c) :: r => (∃ i b, asHas σ i = true ∧ asGet σ i = j ∧ m.get i = some b ∧ renB σ b = c ∧ domB σ b) ∧ memKeep σ m r
def endM (σ : List (Nat × Nat)) (k : Nat) (o : T) (m' : Mem) (m : Mem) (vs : List T) : Prop :=
  (keepB σ k = true ∧ nodupB (σ.map (·.1)) = true ∧ nodupB (σ.map (·.2)) = true) ∧ outS σ m (one vs) o ∧ memKeep σ m m'
def retM (P : Program) (fn : Func) (k : Nat) (o : T) (m' : Mem) (e : Ex) (s : S) : Prop :=
  match e with
  | .normal => resL P s.t s.m fn.results.toList fun vs => ∃ σ, endM σ k o m' s.m vs
  | .ret => resL P s.t s.m fn.results.toList fun vs => ∃ σ, endM σ k o m' s.m vs
  | .exit _ => False
  | .pan _ => False

def initL : Nat → List T → List (Nat × T)
  | _, [] => []
  | k, t :: r => (k, t) :: initL (k + 1) r

theorem look_initL (k : Nat) (ts : List T) (i : Nat) : look (initL k ts) i = if k ≤ i then (match ts[i - k]? with | some t => t | none => .dead) else .dead := by
  induction ts generalizing k with
  | nil => simp [initL, look]
  | cons t r ih =>
    by_cases h : k = i
    · subst h; simp [initL, look]
    · simp only [initL, look, beq_ne h, cond_false, ih]
      by_cases h1 : k ≤ i
      · have h2 : k + 1 ≤ i := by omega
        have h3 : i - k = (i - (k + 1)) + 1 := by omega
        rw [if_pos h1, if_pos h2, h3, List.getElem?_cons_succ]
      · rw [if_neg h1, if_neg (by omega)]

section
variable {P : Program} {G : Gd} {X0 : Xs} {P0 : Pl} {W : Nat → Prop} {w0 : World} {X X' : Xs} {pl pl' : Pl} {w w' : World} {t : List (Nat × T)} {m m' : Mem} {n x : Nat} {a : Act}

def resF (tmps : Array Value) : ResultVar → Sem Value
  | .tmp t => pure (tmps.getD t undef)
  | .cell a t => do loadVar t (← asAddr (tmps.getD a undef))
theorem results_eq (fn : Func) (tmps : Array Value) : results fn tmps = (do let vs ← fn.results.mapM (resF tmps); pure (if h : vs.size = 1 then vs[0] else .tuple vs)) := by
  unfold results
  rfl

theorem resL_ok (henv : EnvOk X pl w t a) (hm : MRel X W pl w m) : ∀ (l : List ResultVar) (K : List T → Prop), resL P t m l K →
    ∃ (ts : List T) (vs : List Value), K ts ∧ ts.length = vs.length ∧ (∀ (i : Nat) (x : T) (v : Value), ts[i]? = some x → vs[i]? = some v → VRel X pl w x v) ∧
      (l.mapM (resF a.tmps)).run P w = .ok vs w
  | [], K, h => ⟨[], [], h, rfl, by simp, by simp⟩
  | .tmp i :: r, K, h => by
    simp only [resL] at h
    obtain ⟨ts, vs, hK, hl, hh, hr⟩ := resL_ok henv hm r _ (forceT_K h)
    refine ⟨_, a.tmps.getD i undef :: vs, hK, by simp [hl], ?_, ?_⟩
    · intro k y v hy hv
      cases k with
      | zero => simp only [List.getElem?_cons_zero, Option.some.injEq] at hy hv; subst hy hv; exact henv i
      | succ k => exact hh k y v (by simpa using hy) (by simpa using hv)
    · simp only [List.mapM_cons, resF, Sem.run_bind, Sem.run_pure, Result.andThen_ok, hr]
  | .cell i ty :: r, K, h => by
    simp only [resL] at h
    obtain ⟨v, y, hr1, hK1, hv1⟩ := loadA_ok hm (henv i) _ h
    obtain ⟨ts, vs, hK, hl, hh, hr⟩ := resL_ok henv hm r _ hK1
    refine ⟨_, v :: vs, hK, by simp [hl], ?_, ?_⟩
    · intro k y2 v2 hy hv
      cases k with
      | zero => simp at hy hv; subst hy hv; exact hv1
      | succ k => exact hh k y2 v2 (by simpa using hy) (by simpa using hv)
    · have hload : (resF a.tmps (.cell i ty)).run P w = .ok v w := by
        unfold resF
        cases hg : a.tmps.getD i undef with
        | pointer ad =>
          rw [hg] at hr1
          cases ad with
          | none => simp [Instr.loadAt, Instr.sureAddr] at hr1
          | some ad =>
            simp only [Instr.loadAt, Instr.sureAddr, Sem.run_bind, Sem.run_pure, Result.andThen_ok] at hr1
            simp only [hg, asAddr, Sem.run_bind, Sem.run_pure, Result.andThen_ok, hr1]
        | _ => rw [hg] at hr1; simp [Instr.loadAt, Instr.sureAddr] at hr1
      simp only [List.mapM_cons, Sem.run_bind, hload, Sem.run_pure, Result.andThen_ok, hr]

theorem le0_any {t o : T} {v : Value} (h : VRel X pl w t v) (hl : le0 t o) : VRel X pl w o v := by
  rcases hl with rfl | ⟨rfl, sz, rfl⟩ | rfl
  · exact h
  · obtain rfl := h.lit_inv
    exact .sl none sz [] _ (.sl none sz [] none 0 (fun _ _ => undef) (Nat.le_refl _) (by simp) (by simp) (by simp)) (by simp)
  · exact .dead _
theorem leCs_ok : ∀ (a b : List T) (vs : List Value), a.length = vs.length → (∀ (i : Nat) (t : T) (v : Value), a[i]? = some t → vs[i]? = some v → VRel X pl w t v) → leCs a b →
    b.length = vs.length ∧ ∀ (i : Nat) (t : T) (v : Value), b[i]? = some t → vs[i]? = some v → VRel X pl w t v
  | [], [], vs, hl, hh, h => ⟨hl, by simp⟩
  | x :: a, y :: b, [], hl, hh, h => by simp at hl
  | x :: a, y :: b, v :: vs, hl, hh, h => by
    obtain ⟨g1, g2⟩ := leCs_ok a b vs (by simpa using hl) (fun i t v ht hv => hh (i + 1) t v (by simpa using ht) (by simpa using hv)) h.2
    refine ⟨by simp [g1], ?_⟩
    intro i t u ht hv
    cases i with
    | zero => simp at ht hv; subst ht hv; exact le0_any (hh 0 x v rfl rfl) h.1
    | succ i => exact g2 i t u (by simpa using ht) (by simpa using hv)
  | [], _ :: _, vs, hl, hh, h => h.elim
  | _ :: _, [], vs, hl, hh, h => h.elim
theorem le1_any {t o : T} {v : Value} (h : VRel X pl w t v) (hl : le1 t o) : VRel X pl w o v := by
  rcases hl with h1 | h1 | h1 | h1
  · exact le0_any h (.inl h1)
  · exact le0_any h (.inr (.inl h1))
  · exact le0_any h (.inr (.inr h1))
  · unfold leAgg at h1
    split at h1
    · cases h with
      | agg _ vs hl hh =>
        obtain ⟨g1, g2⟩ := leCs_ok _ _ vs hl hh h1
        exact .agg _ vs g1 g2
    · exact h1.elim
theorem le1_ok {t o : T} {v : Value} (h : VRel X (fun _ => none) w t v) (hl : le1 t o) : VRel X (fun _ => none) w o v := le1_any h hl

/-- All that is told of, of results, one by one. -/
def AllK (G : T → (T → Prop) → Prop) : List T → List T → Prop
  | [], [] => True
  | x :: a, y :: b => G x (fun x' => le1 x' y) ∧ AllK G a b
  | _, _ => False
theorem outL_all {m : Mem} : ∀ (a b : List T), outL m a b → AllK (lend m) a b
  | [], [], _ => trivial
  | x :: a, y :: b, h => ⟨h.1, outL_all a b h.2⟩
  | [], _ :: _, h => h.elim
  | _ :: _, [], h => h.elim
theorem outLS_all {σ : List (Nat × Nat)} {m : Mem} : ∀ (a b : List T), outLS σ m a b → AllK (resS σ m) a b
  | [], [], _ => trivial
  | x :: a, y :: b, h => ⟨h.1, outLS_all a b h.2⟩
  | [], _ :: _, h => h.elim
  | _ :: _, [], h => h.elim

section outs
variable {X2 : Xs} {p2 : Pl} {G : T → (T → Prop) → Prop}
theorem AllK_ok (hG : ∀ (t : T) (v : Value) (K : T → Prop), VRel X pl w t v → G t K → ∃ t', K t' ∧ VRel X2 p2 w t' v) : ∀ (ts os : List T) (vs : List Value), ts.length = vs.length → (∀ (i : Nat) (x : T) (v : Value), ts[i]? = some x → vs[i]? = some v → VRel X pl w x v) → AllK G ts os →
    os.length = vs.length ∧ ∀ (i : Nat) (x : T) (v : Value), os[i]? = some x → vs[i]? = some v → VRel X2 p2 w x v
  | [], [], vs, hl, hh, h => ⟨hl, by simp⟩
  | x :: a, y :: b, [], hl, hh, h => by simp at hl
  | x :: a, y :: b, v :: vs, hl, hh, h => by
    obtain ⟨h1, h2⟩ := h
    obtain ⟨t', hle, hv'⟩ := hG x v _ (hh 0 x v rfl rfl) h1
    obtain ⟨g1, g2⟩ := AllK_ok hG a b vs (by simpa using hl) (fun i x v hx hv => hh (i + 1) x v (by simpa using hx) (by simpa using hv)) h2
    refine ⟨by simp [g1], ?_⟩
    intro i x2 v2 hx hv
    cases i with
    | zero => simp at hx hv; subst hx hv; exact le1_any hv' hle
    | succ i => exact g2 i x2 v2 (by simpa using hx) (by simpa using hv)
  | [], _ :: _, vs, hl, hh, h => h.elim
  | _ :: _, [], vs, hl, hh, h => h.elim

theorem out_ok (hG : ∀ (t : T) (v : Value) (K : T → Prop), VRel X pl w t v → G t K → ∃ t', K t' ∧ VRel X2 p2 w t' v) {ts : List T} {vs : List Value} {o : T} (hl : ts.length = vs.length)
    (hh : ∀ (i : Nat) (x : T) (v : Value), ts[i]? = some x → vs[i]? = some v → VRel X pl w x v)
    (h : (∃ a b, one ts = .tup a ∧ o = .tup b ∧ AllK G a b) ∨ G (one ts) fun t' => le1 t' o) :
    VRel X2 p2 w o (if h : vs.toArray.size = 1 then vs.toArray[0] else .tuple vs.toArray) := by
  have single : ∀ {t : T} {v : Value}, VRel X pl w t v → ((∃ a b, t = .tup a ∧ o = .tup b ∧ AllK G a b) ∨ G t fun t' => le1 t' o) → VRel X2 p2 w o v := by
    intro t v hv ho
    rcases ho with ⟨a, b, rfl, rfl, hk⟩ | ho
    · cases hv with
      | tup _ vs hl hh =>
        obtain ⟨g1, g2⟩ := AllK_ok hG _ _ vs hl hh hk
        exact .tup _ vs g1 g2
    · obtain ⟨t', hle, hv'⟩ := hG t v _ hv ho
      exact le1_any hv' hle
  match ts, vs, hl with
  | [t], [v], _ =>
    have h1 := hh 0 t v rfl rfl
    simp only [one] at h
    simpa using single h1 h
  | [], [], _ =>
    have := VRel.tup (X := X) (pl := pl) (w := w) ([] : List T) [] rfl (by simp)
    have h2 : VRel X2 p2 w o (.tuple ([] : List Value).toArray) := single (t := .tup []) this h
    simpa using h2
  | t1 :: t2 :: ts, v1 :: v2 :: vs, hl =>
    have := VRel.tup (X := X) (pl := pl) (w := w) (t1 :: t2 :: ts) (v1 :: v2 :: vs) hl hh
    have h2 := single (t := .tup (t1 :: t2 :: ts)) this h
    simpa using h2
end outs

theorem outOk_or {m : Mem} {ts : List T} {o : T} (h : outOk m (one ts) o) : (∃ a b, one ts = .tup a ∧ o = .tup b ∧ AllK (lend m) a b) ∨ lend m (one ts) fun t' => le1 t' o := by
  unfold outOk at h
  split at h
  · rename_i a b e
    exact .inl ⟨_, _, e, rfl, outL_all _ _ h⟩
  · exact .inr h
theorem outS_or {σ : List (Nat × Nat)} {m : Mem} {ts : List T} {o : T} (h : outS σ m (one ts) o) : (∃ a b, one ts = .tup a ∧ o = .tup b ∧ AllK (resS σ m) a b) ∨ resS σ m (one ts) fun t' => le1 t' o := by
  unfold outS at h
  split at h
  · rename_i a b e
    exact .inl ⟨_, _, e, rfl, outLS_all _ _ h⟩
  · exact .inr h

theorem init_env {ts : List T} {args : List Value} {n : Nat} (hlen : ts.length = args.length) (hargs : ∀ (i : Nat) (t : T) (v : Value), ts[i]? = some t → args[i]? = some v → VRel X pl w t v) :
    EnvOk X pl w (initL 0 ts) { tmps := args.toArray ++ Array.replicate n undef, defers := [] } := by
  intro i
  rw [look_initL, if_pos (Nat.zero_le _), Nat.sub_zero]
  cases hi : ts[i]? with
  | none => exact .dead _
  | some t =>
    have hit : i < ts.length := (List.getElem?_eq_some_iff.1 hi).1
    have hia : i < args.length := by omega
    have := hargs i t args[i] hi (by simp [hia])
    simp only [Array.getD_eq_getD_getElem?]
    rw [Array.getElem?_append_left (by simpa using hia)]
    simpa [hia] using this

/-- How a function of data ends. -/
theorem St.endV {G : Gd} {o : T} {fn : Func} {s' : S} {X : Xs} {w : World} {X' : Xs} {pl' : Pl} {a' : Act} {w' : World} (hs' : St G X (fun _ => none) (fun b => w.heap.size ≤ b) w s'.t s'.m s'.n s'.x X' pl' a' w')
    (hr : resL P s'.t s'.m fn.results.toList fun vs => outOk s'.m (one vs) o) : ∃ v, (results fn a'.tmps).run P w' = .ok v w' ∧
      ∃ v2 X2, Ending.returned v = .returned v2 ∧ XMono X X2 w w' ∧ Ext (fun b => w.heap.size ≤ b) w w' ∧ (∀ b off, X2 b off → b < w'.heap.size ∧ (X b off ∨ w.heap.size ≤ b)) ∧ VRel X2 (fun _ => none) w' o v2 := by
    obtain ⟨rs, vs, hK, hl, hh, hrun⟩ := resL_ok hs'.env hs'.mem _ _ hr
    have hx2 : XMono X' (fun b off => X' b off ∨ (w.heap.size ≤ b ∧ b < w'.heap.size)) w' w' := fun b off h => ⟨.inl h, rfl⟩
    refine ⟨_, ?_, _, _, rfl, hs'.mono.trans hx2, hs'.ext, ?_, out_ok (X2 := fun b off => X' b off ∨ (w.heap.size ≤ b ∧ b < w'.heap.size)) (p2 := fun _ => none) (G := lend s'.m) ?_ hl hh (outOk_or hK)⟩
    · have e1 : fn.results = fn.results.toList.toArray := by simp
      rw [results_eq, e1, List.mapM_toArray]
      simp only [Sem.run_bind, Sem.run_map, hrun, Result.andThen_ok, Sem.run_pure]
    · intro b off hb
      rcases hb with hb | hb
      · exact ⟨(hs'.mem.xin b off hb).1, hs'.news b off hb⟩
      · exact ⟨hb.2, .inr hb.1⟩
    · intro t v K hv hg
      exact lend_ok2 hx2 hs'.mem (fun id _ l b off hl hb => .inr (hs'.mem.placed id l b hl hb)) hv hg

/-- A function of data, by its code. -/
theorem FCv_of_awp {f : FuncId} {fn : Func} {c : Code} {ts : List T} {o : T} (hf : P.funcs[f]? = some fn) (hb : fn.body = some c) (hn : ts.length ≤ fn.ntmps) (rl : List Nat)
    (h : awp P c (retQ P fn o) ⟨initL 0 ts, [], fn.ntmps, 0, rl⟩) : FCv P f ts o := by
  intro X w args hXin hG hlen hargs
  refine calls_of_wp hf hb ?_
  have hst : St ⟨[], []⟩ X (fun _ => none) (fun b => w.heap.size ≤ b) w (initL 0 ts) [] fn.ntmps 0 X (fun _ => none) { tmps := args.toArray ++ Array.replicate (fn.ntmps - args.toArray.size) undef, defers := [] } w := by
    refine ⟨init_env hlen hargs, ⟨by simp [Mem.get], by simp, by simp, fun b off h => ⟨hXin b off h, by simp⟩, hG⟩, by simp; omega, by simp, .refl _ _, .refl _ _, fun _ _ h => .inl h, fun _ h => h, rfl, .refl _ _, by simp⟩
  refine wp_mono (awp_ok c _ _ _ _ h ⟨by simp, by simp, X, _, hst⟩) ?_
  rintro e a' w' ⟨ex, s', hex, hq, _, _, X', pl', hs'⟩
  have key : resL P s'.t s'.m fn.results.toList (fun vs => outOk s'.m (one vs) o) → a'.defers = [] ∧ ∃ v, (results fn a'.tmps).run P w' = .ok v w' ∧
      ∃ v2 X2, Ending.returned v = .returned v2 ∧ XMono X X2 w w' ∧ Ext (fun b => w.heap.size ≤ b) w w' ∧ (∀ b off, X2 b off → b < w'.heap.size ∧ (X b off ∨ w.heap.size ≤ b)) ∧ VRel X2 (fun _ => none) w' o v2 :=
    fun hr => ⟨hs'.calm, hs'.endV hr⟩
  cases ex <;> cases e <;> simp only [exRel] at hex
  · exact key hq
  · exact key hq
  · exact hq.elim
  · exact hq.elim

/-- Where an id of a result comes from. -/
def asInv : List (Nat × Nat) → Nat → Option Nat
  | [], _ => none
  | (i, j) :: r, k => if j = k then some i else asInv r k
theorem asInv_some : ∀ {σ : List (Nat × Nat)} {j i : Nat}, asInv σ j = some i → (i, j) ∈ σ
  | [], j, i, h => by simp [asInv] at h
  | (a, b) :: r, j, i, h => by
    simp only [asInv] at h
    split at h
    · rename_i e; cases h; subst e; simp
    · exact List.mem_cons_of_mem _ (asInv_some h)
theorem asGet_mem : ∀ {σ : List (Nat × Nat)} {i : Nat}, asHas σ i = true → (i, asGet σ i) ∈ σ
  | [], i, h => by simp [asHas] at h
  | (a, b) :: r, i, h => by
    simp only [asHas, asGet] at h ⊢
    cases e : Nat.beq a i with
    | true => obtain rfl := Nat.eq_of_beq_eq_true e; simp
    | false => simp only [e, cond_false] at h ⊢; exact List.mem_cons_of_mem _ (asGet_mem h)
theorem mem_asHas : ∀ {σ : List (Nat × Nat)} {i j : Nat}, (i, j) ∈ σ → asHas σ i = true
  | [], i, j, h => by cases h
  | (a, b) :: r, i, j, h => by
    simp only [asHas]
    cases e : Nat.beq a i with
    | true => rfl
    | false =>
      rcases List.mem_cons.1 h with h | h
      · cases h; simp at e
      · exact mem_asHas h
theorem asInv_get : ∀ {σ : List (Nat × Nat)} {i j : Nat}, (σ.map (·.2)).Nodup → (i, j) ∈ σ → asInv σ j = some i
  | [], i, j, _, h => by cases h
  | (a, b) :: r, i, j, hn, h => by
    simp only [List.map_cons, List.nodup_cons] at hn
    simp only [asInv]
    rcases List.mem_cons.1 h with h | h
    · cases h; simp
    · have : b ≠ j := fun e => by subst e; exact hn.1 (List.mem_map.2 ⟨_, h, rfl⟩)
      rw [if_neg this]; exact asInv_get hn.2 h
theorem nodup_fst : ∀ {σ : List (Nat × Nat)} {i j k : Nat}, (σ.map (·.1)).Nodup → (i, j) ∈ σ → (i, k) ∈ σ → j = k
  | [], i, j, k, _, h, _ => by cases h
  | (a, b) :: r, i, j, k, hn, h, h' => by
    simp only [List.map_cons, List.nodup_cons] at hn
    rcases List.mem_cons.1 h with h | h <;> rcases List.mem_cons.1 h' with h' | h'
    · cases h; cases h'; rfl
    · cases h; exact absurd (List.mem_map.2 ⟨_, h', rfl⟩) hn.1
    · cases h'; exact absurd (List.mem_map.2 ⟨_, h, rfl⟩) hn.1
    · exact nodup_fst hn.2 h h'
theorem keepB_get {σ : List (Nat × Nat)} : ∀ {k : Nat}, keepB σ k = true → ∀ i, i < k → asHas σ i = true ∧ asGet σ i = i
  | 0, _, i, h => by omega
  | k + 1, hk, i, h => by
    simp only [keepB, Bool.and_eq_true] at hk
    by_cases e : i = k
    · subst e; exact ⟨hk.1, Nat.eq_of_beq_eq_true hk.2.1⟩
    · exact keepB_get hk.2.2 i (by omega)
theorem memKeep_get {σ : List (Nat × Nat)} : ∀ {m' : Mem}, memKeep σ m m' → ∀ {j : Nat} {c : Blk}, m'.get j = some c → ∃ i b, asHas σ i = true ∧ asGet σ i = j ∧ m.get i = some b ∧ renB σ b = c ∧ domB σ b
  | [], _, j, c, h => by simp [Mem.get] at h
  | (k, d) :: r, hm, j, c, h => by
    simp only [Mem.get] at h
    cases e : Nat.beq k j with
    | true =>
      obtain rfl := Nat.eq_of_beq_eq_true e
      simp only [e, cond_true, Option.some.injEq] at h
      subst h
      exact hm.1
    | false => simp only [e, cond_false] at h; exact memKeep_get hm.2 h

/-- How a function that changes memory ends: the ids that stay. -/
theorem St.endM {G : Gd} {σ : List (Nat × Nat)} {k : Nat} {X : Xs} {pl : Pl} {W : Nat → Prop} {w : World} {t : List (Nat × T)} {m m1 : Mem} {n x : Nat} {X' : Xs} {pl' : Pl} {a' : Act} {w' : World} (hs' : St G X pl W w t m n x X' pl' a' w') (hpk : ∀ id l, pl id = some l → id < k)
    (hkeep : keepB σ k = true) (hn1 : nodupB (σ.map (·.1)) = true) (hn2 : nodupB (σ.map (·.2)) = true) (hmk : memKeep σ m m1) :
    ∃ X2 p2, XMono X X2 w w' ∧ PMono pl p2 w w' ∧ MRel X2 W p2 w' m1 ∧ (∀ b off, X2 b off → X b off ∨ W b) ∧ ∀ (t : T) (v : Value) (K : T → Prop), VRel X' pl' w' t v → resS σ m t K → ∃ t', K t' ∧ VRel X2 p2 w' t' v := by
    have nd1 := nodupB_nodup hn1
    have nd2 := nodupB_nodup hn2
    let p2 : Pl := fun j => match asInv σ j with | some i => pl' i | none => none
    let X2 : Xs := fun b off => X' b off ∨ ∃ id l, asHas σ id = false ∧ pl' id = some l ∧ l.blk = some b
    have hx2 : XMono X' X2 w' w' := fun b off h => ⟨.inl h, rfl⟩
    have hR : Ren σ pl' p2 := by
      intro i hi
      simp only [p2, asInv_get nd2 (asGet_mem hi)]
    have hp2 : ∀ j l, p2 j = some l → ∃ i, (i, j) ∈ σ ∧ pl' i = some l := by
      intro j l hl
      simp only [p2] at hl
      split at hl
      · rename_i i e; exact ⟨i, asInv_some e, hl⟩
      · cases hl
    refine ⟨X2, p2, hs'.mono.trans hx2, ?_, ?_, ?_, ?_⟩
    · intro id l hl
      obtain ⟨h1, h2⟩ := keepB_get hkeep id (hpk id l hl)
      have h3 : p2 id = pl' id := by have := hR id h1; rwa [h2] at this
      have := hs'.pm id l hl
      rw [h3]; exact this
    · refine ⟨?_, ?_, ?_, ?_, hs'.mem.glob.mono hx2⟩
      · intro j c hc
        obtain ⟨i, b, h1, h2, h3, h4, h5⟩ := memKeep_get hmk hc
        obtain ⟨l, hl, hbk⟩ := hs'.mem.blk i b h3
        refine ⟨l, by rw [← h2, hR i h1]; exact hl, ?_⟩
        rw [← h4]
        exact (renB_rel hR h5).2 (hbk.mono hx2 (.refl _ _) fun _ _ => rfl)
      · intro j l b hl hb
        obtain ⟨i, _, hi⟩ := hp2 j l hl
        exact hs'.mem.placed i l b hi hb
      · intro j j' l l' b hl hl' hb hb'
        obtain ⟨i, h1, hi⟩ := hp2 j l hl
        obtain ⟨i', h1', hi'⟩ := hp2 j' l' hl'
        have := hs'.mem.apart i i' l l' b hi hi' hb hb'
        subst this
        exact nodup_fst nd1 h1 h1'
      · intro b off hx
        rcases hx with hx | ⟨id, l, h1, h2, h3⟩
        · obtain ⟨g1, g2⟩ := hs'.mem.xin b off hx
          exact ⟨g1, fun j l hl => by obtain ⟨i, _, hi⟩ := hp2 j l hl; exact g2 i l hi⟩
        · refine ⟨(hs'.mem.placed id l b h2 h3).2, fun j l' hl' => ?_⟩
          obtain ⟨i, hij, hi⟩ := hp2 j l' hl'
          refine free_of_ne fun b' hb' e => ?_
          subst e
          have := hs'.mem.apart id i l l' b' h2 hi h3 hb'
          subst this
          rw [mem_asHas hij] at h1; cases h1
    · intro b off hx
      rcases hx with hx | ⟨id, l, _, h2, h3⟩
      · exact hs'.news b off hx
      · exact .inr (hs'.mem.placed id l b h2 h3).1
    · intro t v K hv hg
      unfold resS at hg
      split at hg
      · rename_i hd
        rw [forceT_eq] at hg
        exact ⟨_, hg, (renT_rel hR hd).2 (hv.mono hx2 (.refl _ _))⟩
      · obtain ⟨hids, hg⟩ := chk_elim hg
        obtain ⟨t', h1, h2⟩ := lend_ok2 hx2 hs'.mem (fun id hid l b off hl hb => .inr ⟨id, l, by have := List.all_eq_true.1 hids id hid; simpa using this, hl, hb⟩) hv hg
        exact ⟨t', h1, none_any h2⟩

theorem init_st {ts : List T} {m0 : Mem} {k n : Nat} {pl : Pl} {args : List Value} (hn : ts.length ≤ n) (hm : MRel X W pl w m0) (hW : ∀ b, w.heap.size ≤ b → W b) (hpk : ∀ id l, pl id = some l → id < k) (hlen : ts.length = args.length)
    (hargs : ∀ (i : Nat) (t : T) (v : Value), ts[i]? = some t → args[i]? = some v → VRel X pl w t v) :
    St ⟨[], []⟩ X pl W w (initL 0 ts) m0 n k X pl { tmps := args.toArray ++ Array.replicate (n - args.toArray.size) undef, defers := [] } w := by
  refine ⟨init_env hlen hargs, hm, by simp; omega, ?_, .refl _ _, .refl _ _, fun _ _ h => .inl h, hW, rfl, .refl _ _, by simp⟩
  intro id hid
  cases e : pl id with
  | none => rfl
  | some l => have := hpk id l e; omega

/-- A function that changes memory, by its code. -/
theorem FCm_of_awp {f : FuncId} {fn : Func} {c : Code} {ts : List T} {m0 : Mem} {k : Nat} {o : T} {m1 : Mem} (hf : P.funcs[f]? = some fn) (hb : fn.body = some c) (hn : ts.length ≤ fn.ntmps) (rl : List Nat) (hk : kOf rl = k)
    (h : awp P c (retM P fn k o m1) ⟨initL 0 ts, m0, fn.ntmps, k, rl⟩) : FCm P f ts m0 k o m1 := by
  intro X W pl w args hm hW hpk hlen hargs
  refine calls_of_wp hf hb ?_
  have hst := init_st hn hm hW hpk hlen hargs
  refine wp_mono (awp_ok c _ _ _ _ h ⟨fun id l hl => by rw [hk]; exact hpk id l hl, by simp, X, _, hst⟩) ?_
  rintro e a' w' ⟨ex, s', hex, hq, _, _, X', pl', hs'⟩
  have key : resL P s'.t s'.m fn.results.toList (fun vs => ∃ σ, endM σ k o m1 s'.m vs) → a'.defers = [] ∧ ∃ v, (results fn a'.tmps).run P w' = .ok v w' ∧
      ∃ v2 X2 p2, Ending.returned v = .returned v2 ∧ XMono X X2 w w' ∧ PMono pl p2 w w' ∧ Ext W w w' ∧ MRel X2 W p2 w' m1 ∧ (∀ b off, X2 b off → X b off ∨ W b) ∧ VRel X2 p2 w' o v2 := by
    intro hr
    obtain ⟨rs, vs, ⟨σ, ⟨hkeep, hn1, hn2⟩, hout, hmk⟩, hl, hh, hrun⟩ := resL_ok hs'.env hs'.mem _ _ hr
    obtain ⟨X2, p2, g1, g2, g3, g4, g5⟩ := hs'.endM hpk hkeep hn1 hn2 hmk
    refine ⟨hs'.calm, _, ?_, _, X2, p2, rfl, g1, g2, hs'.ext, g3, g4, out_ok (X2 := X2) (p2 := p2) (G := resS σ s'.m) g5 hl hh (outS_or hout)⟩
    have e1 : fn.results = fn.results.toList.toArray := by simp
    rw [results_eq, e1, List.mapM_toArray]
    simp only [Sem.run_bind, Sem.run_map, hrun, Result.andThen_ok, Sem.run_pure]
  cases ex <;> cases e <;> simp only [exRel] at hex
  · exact key hq
  · exact key hq
  · exact hq.elim
  · exact hq.elim

def idS : Nat → List (Nat × Nat)
  | 0 => []
  | k + 1 => (k, k) :: idS k
theorem idS_has : ∀ (k i : Nat), asHas (idS k) i = true ↔ i < k
  | 0, i => by simp [idS, asHas]
  | k + 1, i => by
    simp only [idS, asHas]
    cases e : Nat.beq k i with
    | true => obtain rfl := Nat.eq_of_beq_eq_true e; simp
    | false =>
      have hne : k ≠ i := fun h => by subst h; simp at e
      simp only [cond_false]
      rw [idS_has k i]; omega
theorem idS_get : ∀ (k i : Nat), i < k → asGet (idS k) i = i
  | k + 1, i, h => by
    simp only [idS, asGet]
    cases e : Nat.beq k i with
    | true => exact Nat.eq_of_beq_eq_true e
    | false =>
      have hne : k ≠ i := fun h => by subst h; simp at e
      exact idS_get k i (by omega)
theorem idS_keep (k : Nat) : ∀ j, j ≤ k → keepB (idS k) j = true
  | 0, _ => rfl
  | j + 1, h => by
    simp only [keepB, (idS_has k j).2 (by omega), idS_get k j (by omega), Nat.beq_refl, idS_keep k j (by omega), Bool.and_self]
theorem idS_map1 (k : Nat) : (idS k).map (·.1) = (idS k).map (·.2) := by
  induction k with
  | zero => rfl
  | succ k ih => simp [idS, ih]
theorem idS_mem : ∀ {k i : Nat}, memB ((idS k).map (·.1)) i = true → i < k
  | 0, i, h => by simp [idS, memB] at h
  | k + 1, i, h => by
    simp only [idS, List.map_cons, memB] at h
    cases e : Nat.beq k i with
    | true => obtain rfl := Nat.eq_of_beq_eq_true e; omega
    | false => rw [e] at h; have := idS_mem (k := k) h; omega
theorem idS_nodup (k : Nat) : nodupB ((idS k).map (·.1)) = true := by
  induction k with
  | zero => rfl
  | succ k ih =>
    simp only [idS, List.map_cons, nodupB, ih, Bool.and_true]
    cases e : memB ((idS k).map (·.1)) k with
    | true => have := idS_mem e; omega
    | false => rfl

/-- A function that panics, by its code. -/
def retX (v0 : Value) (e : Ex) (s : S) : Prop := match e with
  | .pan v => v = v0
  | _ => False
theorem FCx_of_awp {f : FuncId} {fn : Func} {c : Code} {ts : List T} {m0 : Mem} {k : Nat} {v0 : Value} (hf : P.funcs[f]? = some fn) (hb : fn.body = some c) (hn : ts.length ≤ fn.ntmps) (rl : List Nat) (hk : kOf rl = k)
    (h : awp P c (retX v0) ⟨initL 0 ts, m0, fn.ntmps, k, rl⟩) : FCx P f ts m0 k v0 := by
  intro X W pl w args hm hW hpk hlen hargs
  refine calls_of_wp hf hb ?_
  have hst := init_st hn hm hW hpk hlen hargs
  refine wp_mono (awp_ok c _ _ _ _ h ⟨fun id l hl => by rw [hk]; exact hpk id l hl, by simp, X, _, hst⟩) ?_
  rintro e a' w' ⟨ex, s', hex, hq, _, _, X', pl', hs'⟩
  cases ex <;> cases e <;> simp only [exRel] at hex
  · exact hq.elim
  · exact hq.elim
  · exact hq.elim
  · subst hex
    have hq : _ = v0 := hq
    subst hq
    obtain ⟨X2, p2, g1, g2, g3, g4, g5⟩ := hs'.endM (m1 := []) hpk (idS_keep k k (Nat.le_refl _)) (idS_nodup k) (by rw [← idS_map1]; exact idS_nodup k) trivial
    exact ⟨hs'.calm, undef, X2, p2, rfl, g1, g2, hs'.ext, g3, g4, .dead _⟩

/-! ## Deferred calls -/
def modeOf : Option Value → FrameMode
  | none => .returning
  | some v => .panicking [{ v := v, recovered := false }]
def modeTo : Option Value → FrameMode
  | none => .returning
  | some v => .panicking [{ v := v, recovered := true }]
theorem settle_to (o : Option Value) : settle (modeTo o) = .returning := by cases o <;> rfl
/-- A deferred call, at a return or at a panic. -/
def FCd (P : Program) (f : FuncId) (ts : List T) (m : Mem) (k : Nat) (p : Option Value) (m' : Mem) : Prop :=
  ∀ (X : Xs) (W : Nat → Prop) (pl : Pl) (w : World) (args : List Value), MRel X W pl w m → (∀ b, w.heap.size ≤ b → W b) → (∀ id l, pl id = some l → id < k) → ts.length = args.length →
    (∀ (i : Nat) (t : T) (v : Value), ts[i]? = some t → args[i]? = some v → VRel X pl w t v) →
    CallsD P f args.toArray (modeOf p) w fun e u' w' => ∃ v X' pl', e = .returned v ∧ u' = modeTo p ∧ XMono X X' w w' ∧ PMono pl pl' w w' ∧ Ext W w w' ∧ MRel X' W pl' w' m' ∧ (∀ b off, X' b off → X b off ∨ W b)

theorem wpOpsS_of {ops : Array Oper} {Q : Exit → Act → World → Prop} (hno : ¬ LetsOut Q) (cs : List Frame) : ∀ (l : List Nat) (a : Act) (w : World), wpOps P ops Q l a w → wpOpsS P ops (fun e a cs' w => cs' = cs ∧ Q e a w) l a cs w
  | [], a, w, h => ⟨rfl, h⟩
  | i :: rest, a, w, h => by
    simp only [wpOps, wpOpsS] at h ⊢
    cases ho : ops[i]? with
    | none => simp only [ho] at h ⊢; exact wpOpsS_of hno cs rest a w h
    | some o =>
      simp only [ho] at h ⊢
      split at h
      · rename_i hw
        rw [if_pos hw]
        rcases h with h | ⟨_, h⟩
        · unfold Oper.wp at h
          generalize hr : (execOp a.eval o).run P w = r at h ⊢
          split
          · simp only [Oper.upon] at h
          · unfold Oper.upon at h ⊢
            split at h
            · exact wpOpsS_of hno cs rest _ _ h
            · exact wpOpsS_of hno cs rest _ _ h
            · exact wpOpsS_of hno cs rest _ _ h
            · refine h.mono ?_
              intro e w' he
              cases e with
              | returned v => exact wpOpsS_of hno cs rest _ _ he
              | panicked ch => exact ⟨trivial, he⟩
              | outgrown => exact (hno he).elim
            · refine h.mono ?_
              intro v w' he
              exact wpOpsS_of hno cs rest _ _ he
            · exact ⟨trivial, h⟩
            · exact h.elim
        · exact (hno h).elim
      · rename_i hw
        rw [if_neg hw]
        exact wpOpsS_of hno cs rest _ _ h
end
end Go.AW

/- Deferred calls that recover, and functions that defer one call at their beginning. -/
set_option linter.unusedVariables false
set_option linter.unusedSimpArgs false
namespace Go.AW
open Go

section
variable {P : Program} {X0 : Xs} {P0 : Pl} {W : Nat → Prop} {w0 : World} {X X' : Xs} {pl pl' : Pl} {w w' : World} {t : List (Nat × T)} {m m' : Mem} {n x : Nat} {a : Act}

def recV : Option Value → Value
  | none => .nilIface
  | some v => v

theorem blt_of' {a b : Nat} (h : a < b) : Nat.blt a b = true := Nat.ble_eq.mpr h
theorem wpOpsS_mono {ops : Array Oper} {Q Q' : Exit → Act → List Frame → World → Prop} (hQ : ∀ e a cs w, Q e a cs w → Q' e a cs w) : ∀ (l : List Nat) (a : Act) (cs : List Frame) (w : World), wpOpsS P ops Q l a cs w → wpOpsS P ops Q' l a cs w
  | [], a, cs, w, h => hQ _ _ _ _ h
  | i :: rest, a, cs, w, h => by
    simp only [wpOpsS] at h ⊢
    cases ho : ops[i]? with
    | none => simp only [ho] at h ⊢; exact wpOpsS_mono hQ rest a cs w h
    | some o =>
      simp only [ho] at h ⊢
      split at h
      · rename_i hw
        rw [if_pos hw]
        generalize hr : (execOp a.eval o).run P w = r at h ⊢
        split at h
        · split at h
          · exact wpOpsS_mono hQ rest _ _ _ h
          · exact wpOpsS_mono hQ rest _ _ _ h
        · rename_i hnot
          unfold Oper.upon at h ⊢
          split at h
          · exact wpOpsS_mono hQ rest _ _ _ h
          · exact wpOpsS_mono hQ rest _ _ _ h
          · exact wpOpsS_mono hQ rest _ _ _ h
          · refine h.mono ?_
            intro e w' he
            cases e with
            | returned v => exact wpOpsS_mono hQ rest _ _ _ he
            | panicked ch => exact hQ _ _ _ _ he
            | outgrown => obtain ⟨a0, w1, he⟩ := he; exact ⟨a0, w1, hQ _ _ _ _ he⟩
          · refine h.mono ?_
            intro v w' he
            exact wpOpsS_mono hQ rest _ _ _ he
          · exact hQ _ _ _ _ h
          · exact h.elim
      · rename_i hw
        rw [if_neg hw]
        exact wpOpsS_mono hQ rest _ _ _ h
theorem Post_no_out {G : Gd} {Q : Ex → S → Prop} : ¬ LetsOut (Post G X0 P0 W w0 Q) := by
  rintro ⟨a, w, ex, s, hex, _⟩
  cases ex <;> simp only [exRel] at hex

theorem wpOps_range {ops : Array Oper} {o : Oper} {l : List Oper} (h : ops.toList = o :: l) : List.range ops.size = 0 :: List.range' 1 l.length := by
  have : ops.size = l.length + 1 := by rw [← Array.length_toList, h]; rfl
  rw [this, List.range_eq_range', List.range'_succ]

/-- A function that recovers first, as a deferred call. -/
theorem FCd_of_awp {f : FuncId} {fn : Func} {rid : Nat} {ops : Array Oper} {o0 : Oper} {l : List Oper} {rec : Call} {d : Nat} {c : Code} {ts : List T} {m0 : Mem} {k : Nat} {p : Option Value} {m1 : Mem}
    (hf : P.funcs[f]? = some fn) (hb : fn.body = some (.seq (.region rid ops false) c)) (hops : ops.toList = o0 :: l) (h0 : o0.op = .call rec) (hrec : rec.callee = .builtin .recover) (hd : o0.dst = some d) (hdn : d < fn.ntmps) (hg : o0.guard = none)
    (hn : ts.length ≤ fn.ntmps) (hres : fn.results = #[]) (rl : List Nat) (hk : kOf rl = k)
    (h : opsA P ops fn.ntmps rl (fun _ _ _ _ => False) l (putT (initL 0 ts) d (.lit (recV p))) m0 k fun t m x => awp P c (retM P fn k (.tup []) m1) ⟨t, m, fn.ntmps, x, rl⟩) : FCd P f ts m0 k p m1 := by
  intro X W pl w args hm hW hpk hlen hargs
  refine callsD_of_wpS hf hb ?_
  intro c₀ cs hu
  have hst0 := init_st hn hm hW hpk hlen hargs
  have hk0 : ops[0]? = some o0 := by rw [← Array.getElem?_toList, hops]; rfl
  obtain ⟨tv, X1, pl1, htv, hst⟩ := hst0.put (StepOk.same hm none (VRel.lit (recV p))) (x' := k) (d := some d) (K := fun t' => t' = putT (initL 0 ts) d (.lit (recV p))) (fun i hi => ⟨hi, by simp⟩) (by
    simp only [putD]
    refine chk_intro (blt_of' hdn) ?_
    rw [putF_eq])
  rw [htv] at hst
  have hrun : (execOp ({ tmps := args.toArray ++ Array.replicate (fn.ntmps - args.toArray.size) undef, defers := [] } : Act).eval o0).run P w = .ok .recover w := by
    simp [execOp, h0, resolve, hrec, invoke, builtin]
  let u' := modeTo p
  have hcs : recoverD (c₀ :: cs) = (match p with | none => none | some v => some (v, { c₀ with mode := modeTo (some v) } :: cs)) := by
    cases p with
    | none => simp only [recoverD, hu, modeOf]
    | some v => simp only [recoverD, hu, modeOf, modeTo]
  refine wpS_seq (wpS_region ?_)
  rw [wpOps_range hops]
  simp only [wpOpsS, hk0]
  rw [if_pos (by simp [Region.wanted, hg])]
  rw [hrun]
  have go : ∀ cs', cs' = ({ c₀ with mode := modeTo p } : Frame) :: cs → wpOpsS P ops (Exit.thenS (c.wpS P (bodyPostS P fn c₀ cs fun e u' w' => ∃ v X' pl', e = .returned v ∧ u' = modeTo p ∧ XMono X X' w w' ∧ PMono pl pl' w w' ∧ Ext W w w' ∧ MRel X' W pl' w' m1 ∧ (∀ b off, X' b off → X b off ∨ W b)))
      (bodyPostS P fn c₀ cs fun e u' w' => ∃ v X' pl', e = .returned v ∧ u' = modeTo p ∧ XMono X X' w w' ∧ PMono pl pl' w w' ∧ Ext W w w' ∧ MRel X' W pl' w' m1 ∧ (∀ b off, X' b off → X b off ∨ W b)))
      (List.range' 1 l.length) (Act.put { tmps := args.toArray ++ Array.replicate (fn.ntmps - args.toArray.size) undef, defers := [] } (some d) (recV p)) cs' w := by
    rintro cs' rfl
    have hw := opsA_ok (P := P) (G := ⟨[], []⟩) (X0 := X) (P0 := pl) (W := W) (w0 := w) (n := fn.ntmps) (ops := ops) (rl := rl)
      (Q := Post ⟨[], []⟩ X pl W w fun e s => e = .normal ∧ awp P c (retM P fn k (.tup []) m1) s)
      (KP := fun _ _ _ _ => False) (K := fun t m x => awp P c (retM P fn k (.tup []) m1) ⟨t, m, fn.ntmps, x, rl⟩)
      (fun t m x X pl a w hst hK => ⟨.normal, ⟨t, m, fn.ntmps, x, rl⟩, trivial, ⟨rfl, hK⟩, fun id l hl => by show id < kOf rl; rw [hk]; exact hpk id l hl, by simp, X, pl, hst⟩)
      (fun v t m x X pl a w hst hK => hK.elim)
      l 1 _ m0 k X1 pl1 _ w (by rw [← Array.length_toList, hops]; simp) (by rw [hops]; rfl) h hst
    have hs := wpOpsS_of Post_no_out (({ c₀ with mode := modeTo p } : Frame) :: cs) _ _ _ hw
    refine wpOpsS_mono ?_ _ _ _ _ hs
    rintro e a' cs2 w' ⟨rfl, ex, s', hex, ⟨rfl, hq⟩, hholds⟩
    cases e <;> simp only [exRel] at hex
    show c.wpS P _ a' _ w'
    refine wpS_of_wp (wp_mono (awp_ok c _ _ _ _ hq hholds) ?_)
    rintro e2 a2 w2 ⟨ex2, s2, hex2, hq2, _, _, X', pl', hs'⟩
    have key : resL P s2.t s2.m fn.results.toList (fun vs => ∃ σ, endM σ k (.tup []) m1 s2.m vs) → a2.defers = [] ∧ ∃ u2, ({ c₀ with mode := modeTo p } : Frame) :: cs = ({ c₀ with mode := u2 } : Frame) :: cs ∧ ∃ v, (results fn a2.tmps).run P w2 = .ok v w2 ∧
        ∃ v2 X' pl', Ending.returned v = .returned v2 ∧ u2 = modeTo p ∧ XMono X X' w w2 ∧ PMono pl pl' w w2 ∧ Ext W w w2 ∧ MRel X' W pl' w2 m1 ∧ (∀ b off, X' b off → X b off ∨ W b) := by
      intro hr
      rw [hres] at hr
      obtain ⟨σ, ⟨hkeep, hn1, hn2⟩, hout, hmk⟩ := hr
      obtain ⟨X2, p2, g1, g2, g3, g4, g5⟩ := hs'.endM hpk hkeep hn1 hn2 hmk
      refine ⟨hs'.calm, modeTo p, rfl, .tuple #[], ?_, _, X2, p2, rfl, rfl, g1, g2, hs'.ext, g3, g4⟩
      rw [results_eq, hres]
      simp
    cases ex2 <;> cases e2 <;> simp only [exRel] at hex2
    · exact key hq2
    · exact key hq2
    · exact hq2.elim
    · exact hq2.elim
  cases p with
  | none =>
    rw [hcs]
    simp only
    rw [hd]
    exact go (c₀ :: cs) (by
      have : modeTo none = c₀.mode := by rw [hu]; rfl
      rw [this])
  | some v =>
    rw [hcs]
    simp only
    rw [hd]
    exact go _ rfl
end
end Go.AW

/- Functions of data that defer one call, which recovers. -/
set_option linter.unusedVariables false
set_option linter.unusedSimpArgs false
namespace Go.AW
open Go

def ltB (k : Nat) : T → Bool
  | .ptr i _ _ => Nat.blt i k
  | .lit _ => true
  | _ => false
theorem ltB_lt {k : Nat} {t : T} (h : ltB k t = true) : ltT k t := by cases t <;> first | trivial | exact h | (simp [ltB] at h)

/-- The deferred call, and then the results. -/
def endD (P : Program) (fn : Func) (g : FuncId) (cs : List T) (p : Option Value) (o : T) (s : S) : Prop :=
  ∃ (js : List Nat) (ts0 : List T) (m0 m1 mR : Mem), FCd P g ts0 m0 js.length p m1 ∧
    (nodupB js = true ∧ hasL s.m js ∧ ts0.map (renT (asIn js 0)) = cs ∧ ts0.all (domT (asIn js 0)) = true ∧ memIn (asIn js 0) s.m m0 ∧ memOut (asIn (js ++ [s.x]) 0) m1 mR) ∧
    delL js s.m fun m => putL mR m fun m => resL P s.t m fn.results.toList fun vs => outOk m (one vs) o
def retD (P : Program) (fn : Func) (g : FuncId) (cs : List T) (o : T) (e : Ex) (s : S) : Prop :=
  match e with
  | .normal => endD P fn g cs none o s
  | .ret => endD P fn g cs none o s
  | .pan v => endD P fn g cs (some v) o s
  | .exit _ => False
def defQ (P : Program) (fn : Func) (g : FuncId) (ks : Nat) (caps : List Operand) (rest : Code) (o : T) (e : Ex) (s : S) : Prop :=
  match e with
  | .normal => chk ((caps.map (ev s.t)).all (ltB (kOf s.r))) <| putD s.t s.n (some ks) (.clo g (caps.map (ev s.t))) fun t => awp P rest (retD P fn g (caps.map (ev s.t)) o) ⟨t, s.m, s.n, s.x, s.r⟩
  | _ => False

section
variable {P : Program} {X0 : Xs} {P0 : Pl} {W : Nat → Prop} {w0 : World} {X X' : Xs} {pl pl' : Pl} {w w' : World} {t : List (Nat × T)} {m m' : Mem} {n x : Nat} {a : Act}

theorem FCv_of_defer {f g : FuncId} {fn gn : Func} {r0 rest : Code} {rid : Nat} {mk df : Oper} {caps : Array Operand} {at' : Array TypeId} {ks : Nat} {ts : List T} {o : T}
    (hf : P.funcs[f]? = some fn) (hb : fn.body = some (.seq r0 (.seq (.region rid #[mk, df] false) rest))) (hmk : mk.op = .makeFunc (.func g) #[] caps) (hms : mk.dst = some ks) (hmg : mk.guard = none)
    (hdf : df.op = .defer { callee := .value (.tmp ks), args := #[], argTypes := at' }) (hds : df.dst = none) (hdg : df.guard = none)
    (hgf : P.funcs[g]? = some gn) (hgb : gn.body.isSome = true) (hgn : (!(gn.name == "runtime.NumGoroutine")) = true)
    (hn : ts.length ≤ fn.ntmps) (rl : List Nat)
    (h : awp P r0 (defQ P fn g ks caps.toList rest o) ⟨initL 0 ts, [], fn.ntmps, 0, rl⟩) : FCv P f ts o := by
  intro X w args hXin hG hlen hargs
  refine calls_of_wp_defers hf hb (wp_seq ?_)
  have hst : St ⟨[], []⟩ X (fun _ => none) (fun b => w.heap.size ≤ b) w (initL 0 ts) [] fn.ntmps 0 X (fun _ => none) { tmps := args.toArray ++ Array.replicate (fn.ntmps - args.toArray.size) undef, defers := [] } w :=
    init_st hn ⟨by simp [Mem.get], by simp, by simp, fun b off h => ⟨hXin b off h, by simp⟩, hG⟩ (fun _ h => h) (by simp) hlen hargs
  refine wp_mono (awp_ok r0 _ _ _ _ h ⟨by simp, by simp, X, _, hst⟩) ?_
  rintro e a1 w1 ⟨ex, s1, hex, hq, _, _, X1, pl1, hs1⟩
  cases ex <;> try (exact hq.elim)
  cases e <;> simp only [exRel] at hex
  obtain ⟨hlt, hq⟩ := chk_elim hq
  refine wp_seq (wp_region ?_)
  have hvs : ∀ (i : Nat) (t : T) (v : Value), (caps.toList.map (ev s1.t))[i]? = some t → (caps.map a1.eval).toList[i]? = some v → VRel X1 pl1 w1 t v := evs_ok hs1.env caps
  have hclo : VRel X1 pl1 w1 (.clo g (caps.toList.map (ev s1.t))) (.func (.func g) #[] (caps.map a1.eval)) := by
    have := VRel.clo (X := X1) (pl := pl1) (w := w1) g (caps.toList.map (ev s1.t)) (caps.map a1.eval).toList (by simp) hvs
    rwa [Array.toArray_toList] at this
  rcases putD_elim hq with ⟨hno, _⟩ | ⟨ks', hks', hks, hq⟩
  · cases hno
  cases hks'
  obtain ⟨t2, X2, pl2, ht2, hs2⟩ := hs1.put (StepOk.same hs1.mem none hclo) (x' := s1.x) (d := some ks) (K := fun t' => t' = putT s1.t ks (.clo g (caps.toList.map (ev s1.t)))) (fun i hi => ⟨hi, by simp⟩) (by
    simp only [putD]
    exact chk_intro (blt_of' hks) (by rw [putF_eq]))
  rw [ht2] at hs2
  clear ht2
  let d : Deferred := { target := .fn (.func g) (caps.map a1.eval), args := #[] }
  have r1 : (execOp a1.eval mk).run P w1 = .ok (.value (.func (.func g) #[] (caps.map a1.eval))) w1 := by
    simp [execOp, hmk, Instr.makeFunc, Sem.run_bind, Sem.run_pure]
  have hev : (a1.put (some ks) (.func (.func g) #[] (caps.map a1.eval))).eval (.tmp ks) = .func (.func g) #[] (caps.map a1.eval) := by
    show (a1.put (some ks) _).tmps.getD ks undef = _
    rw [getD_put _ _ _ (by rw [hs1.size]; exact hks), if_pos rfl]
  have r2 : (execOp (a1.put (some ks) (.func (.func g) #[] (caps.map a1.eval))).eval df).run P w1 = .ok (.defer d) w1 := by
    simp [execOp, hdf, resolve, hev, Deferred.ofValue, d]
  have hr : List.range (#[mk, df] : Array Oper).size = [0, 1] := rfl
  rw [hr]
  simp only [wpOps, List.getElem?_toArray, List.getElem?_cons_zero, List.getElem?_cons_succ]
  rw [if_pos (by simp [Region.wanted, hmg])]
  refine .inl ?_
  unfold Oper.wp
  rw [r1, Oper.upon_value, hms]
  rw [if_pos (by simp [Region.wanted, hdg])]
  refine .inl ?_
  rw [r2, Oper.upon_defer, hds]
  show rest.wp P _ _ w1
  -- the rest, with one call deferred
  have hcv : VRel X2 pl2 w1 (.clo g (caps.toList.map (ev s1.t))) (.func (.func g) #[] (caps.map a1.eval)) := by
    have h1 := hs2.env ks
    rw [look_putT, if_pos rfl] at h1
    have h2 : (a1.put (some ks) (.func (.func g) #[] (caps.map a1.eval))).tmps.getD ks undef = .func (.func g) #[] (caps.map a1.eval) := hev
    rwa [h2] at h1
  obtain ⟨vs2, e2, hl2, hh2⟩ := clo_inv hcv
  have e3 : caps.map a1.eval = vs2.toArray := by injection e2
  let G2 : Gd := ⟨[d], (caps.toList.map (ev s1.t)).zip vs2⟩
  have hcp : ∀ p ∈ G2.c, VRel X2 pl2 w1 p.1 p.2 ∧ ltT (kOf s1.r) p.1 := by
    intro p hp
    obtain ⟨i, hi, he⟩ := List.getElem_of_mem hp
    have hi0 : i < (caps.toList.map (ev s1.t)).length ∧ i < vs2.length := by
      have : ((caps.toList.map (ev s1.t)).zip vs2).length = min (caps.toList.map (ev s1.t)).length vs2.length := List.length_zip
      have hi' : i < ((caps.toList.map (ev s1.t)).zip vs2).length := hi
      omega
    have he2 : p = ((caps.toList.map (ev s1.t))[i]'hi0.1, vs2[i]'hi0.2) := by rw [← he]; exact List.getElem_zip
    subst he2
    exact ⟨hh2 i _ _ (List.getElem?_eq_getElem hi0.1) (List.getElem?_eq_getElem hi0.2), ltB_lt (List.all_eq_true.1 hlt _ (List.getElem_mem hi0.1))⟩
  have hs3 : St G2 X (fun _ => none) (fun b => w.heap.size ≤ b) w (putT s1.t ks (.clo g (caps.toList.map (ev s1.t)))) s1.m s1.n s1.x X2 pl2
      (Act.put { a1.put (some ks) (.func (.func g) #[] (caps.map a1.eval)) with defers := d :: (a1.put (some ks) (.func (.func g) #[] (caps.map a1.eval))).defers } none undef) w1 := by
    refine ⟨hs2.env, hs2.mem, hs2.size, hs2.next, hs2.ext, hs2.mono, hs2.news, hs2.fresh, ?_, hs2.pm, fun p hp => (hcp p hp).1⟩
    show d :: (a1.put (some ks) _).defers = [d]
    have h1 : (a1.put (some ks) (.func (.func g) #[] (caps.map a1.eval))).defers = [] := hs2.calm
    rw [h1]
  have hrest := awp_ok (G := G2) rest _ ⟨putT s1.t ks (.clo g (caps.toList.map (ev s1.t))), s1.m, s1.n, s1.x, s1.r⟩ _ w1 hq ⟨by simp, fun p hp => (hcp p hp).2, X2, pl2, hs3⟩
  refine wp_mono hrest ?_
  rintro e a' w' ⟨ex, s', hex2, hq2, _, _, X', pl', hs'⟩
  have hdl : a'.defers = [d] := hs'.calm
  have hinv : (invoke d.target d.args).run P w' = .ok (.enter g vs2.toArray) w' := by
    have hbn : ¬ gn.body = none := by rw [Option.isSome_iff_exists] at hgb; obtain ⟨b, hb⟩ := hgb; simp [hb]
    have hnm : ¬ gn.name = "runtime.NumGoroutine" := by simpa using hgn
    simp [d, e3, invoke, callFunc, hgf, hnm, hbn]
  have key : ∀ p : Option Value, endD P fn g (caps.toList.map (ev s1.t)) p o s' → Leaves P fn a'.tmps (fun e w' => ∃ v X', e = .returned v ∧ XMono X X' w w' ∧ Ext (fun b => w.heap.size ≤ b) w w' ∧
      (∀ b off, X' b off → b < w'.heap.size ∧ (X b off ∨ w.heap.size ≤ b)) ∧ VRel X' (fun _ => none) w' o v) a'.defers (modeOf p) w' := by
    rintro p ⟨js, ts0, m0, m1, mR, hF, ⟨h1, h2, h3, h4, h5, h6⟩, hres⟩
    rw [delL_eq, putL_eq] at hres
    have hargs2 : ∀ (i : Nat) (t : T) (v : Value), (ts0.map (renT (asIn js 0)))[i]? = some t → vs2[i]? = some v → VRel X' pl' w' t v := by
      intro i t v ht hv
      rw [h3] at ht
      refine hs'.cap (t, v) ?_
      have hz : ((caps.toList.map (ev s1.t)).zip vs2)[i]? = some (t, v) := by rw [List.getElem?_zip_eq_some]; exact ⟨ht, hv⟩
      exact List.mem_of_getElem? hz
    have hlen2 : ts0.length = vs2.length := by rw [← hl2, ← h3]; simp
    obtain ⟨W1, pl1, k1, k2, k3, k4, k5⟩ := callM_core (o := .dead) hs'.mem (hs'.next s'.x (Nat.le_refl _)) (fun b hb => hs'.fresh b (Nat.le_trans hs'.ext.size hb)) h1 h2 h4 h5 rfl h6 hargs2
    rw [hdl]
    refine ⟨by cases p <;> simp [modeOf], _, _, g, vs2.toArray, rfl, hinv, ?_⟩
    intro c₀ cs hc
    obtain ⟨e, u', w2, fr, ⟨v, X3, pl3, rfl, rfl, g1, g2, g3, g4, g5⟩, hrest2⟩ := hF X' W1 pl1 w' vs2 k1 k2 k3 hlen2 k4 c₀ cs hc
    refine ⟨.returned v, modeTo p, w2, fr, ?_, hrest2⟩
    show Leaves P fn a'.tmps _ [] (settle (modeTo p)) w2
    rw [settle_to]
    obtain ⟨X4, pl4, z1, z2, z3, z4, z5, z6, z7⟩ := k5 v w2 X3 pl3 g1 g2 g3 g4 g5 (.dead v)
    have hs4 : St G2 X (fun _ => none) (fun b => w.heap.size ≤ b) w s'.t (Mem.putAll mR (Mem.delAll js s'.m)) s'.n (s'.x + 1) X4 pl4 a' w2 := by
      refine ⟨fun i => (hs'.env i).mono z1 z2, z5, hs'.size, fun i hi => z3 i (fun e => by cases e; omega) (hs'.next i (by omega)), hs'.ext.trans z4, hs'.mono.trans z1, ?_, hs'.fresh, hs'.calm, hs'.pm.trans z2, fun q hq => (hs'.cap q hq).mono z1 z2⟩
      intro b off hb
      rcases z7 b off hb with h | h
      · exact hs'.news b off h
      · exact .inr h
    exact St.endV (s' := ⟨s'.t, Mem.putAll mR (Mem.delAll js s'.m), s'.n, s'.x + 1, s'.r⟩) hs4 hres
  cases ex <;> cases e <;> simp only [exRel] at hex2
  · exact key none hq2
  · exact key none hq2
  · exact hq2.elim
  · subst hex2
    exact key (some _) hq2
end
end Go.AW
