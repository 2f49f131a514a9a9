/- Functions of data: what has to be shown of their code. -/
import Derived.Test.YtciboampiaainaaDoorAw20
set_option linter.unusedVariables false
set_option linter.unusedSimpArgs false
namespace Go.AW
open Go

def resL (P : Program) (t : List (Nat × T)) (m : Mem) : List ResultVar → (List T → Prop) → Prop
  | [], K => K []
  | .tmp i :: r, K => forceT (look t i) fun v => resL P t m r fun vs => K (v :: vs)
  | .cell i ty :: r, K => loadA P m ty (look t i) fun v => resL P t m r fun vs => K (v :: vs)

def one (vs : List T) : T := match vs with | [v] => v | vs => .tup vs

def le0 (t o : T) : Prop := t = o ∨ (t = .lit (.slice none 0 0) ∧ ∃ sz, o = .sl none sz []) ∨ o = .dead
def leCs : List T → List T → Prop
  | [], [] => True
  | a :: r, b :: s => le0 a b ∧ leCs r s
  | _, _ => False
def leAgg (t o : T) : Prop := match t, o with
  | .agg a, .agg b => leCs a b
  | _, _ => False
def le1 (t o : T) : Prop := t = o ∨ (t = .lit (.slice none 0 0) ∧ ∃ sz, o = .sl none sz []) ∨ o = .dead ∨ leAgg t o
def outL (m : Mem) : List T → List T → Prop
  | [], [] => True
  | x :: a, y :: b => lend m x (fun x' => le1 x' y) ∧ outL m a b
  | _, _ => False
def outOk (m : Mem) (t o : T) : Prop := match t, o with
  | .tup a, .tup b => outL m a b
  | t, o => lend m t fun t' => le1 t' o

def retQ (P : Program) (fn : Func) (o : T) (e : Ex) (s : S) : Prop :=
  match e with
  | .normal => resL P s.t s.m fn.results.toList fun vs => outOk s.m (one vs) o
  | .ret => resL P s.t s.m fn.results.toList fun vs => outOk s.m (one vs) o
  | .exit _ => False

/-- A result, of a function that changes memory. -/
def resS (σ : List (Nat × Nat)) (m : Mem) (x : T) (K : T → Prop) : Prop := match domT σ x with
  | true => forceT (renT σ x) K
  | false => chk ((idsT x).all fun i => !asHas σ i) (lend m x K)
def outLS (σ : List (Nat × Nat)) (m : Mem) : List T → List T → Prop
  | [], [] => True
  | x :: a, y :: b => resS σ m x (fun x' => le1 x' y) ∧ outLS σ m a b
  | _, _ => False
def outS (σ : List (Nat × Nat)) (m : Mem) (t o : T) : Prop := match t, o with
  | .tup a, .tup b => outLS σ m a b
  | t, o => resS σ m t fun t' => le1 t' o
def keepB (σ : List (Nat × Nat)) : Nat → Bool
  | 0 => true
  | k + 1 => asHas σ k && (Nat.beq (asGet σ k) k && keepB σ k)
def memKeep (σ : List (Nat × Nat)) (m : Mem) : Mem → Prop
  | [] => True
  | (j, c) :: r => (∃ i b, asHas σ i = true ∧ asGet σ i = j ∧ m.get i = some b ∧ renB σ b = c ∧ domB σ b) ∧ memKeep σ m r
def endM (σ : List (Nat × Nat)) (k : Nat) (o : T) (m' : Mem) (m : Mem) (vs : List T) : Prop :=
  (keepB σ k = true ∧ nodupB (σ.map (·.1)) = true ∧ nodupB (σ.map (·.2)) = true) ∧ outS σ m (one vs) o ∧ memKeep σ m m'
def retM (P : Program) (fn : Func) (k : Nat) (o : T) (m' : Mem) (e : Ex) (s : S) : Prop :=
  match e with
  | .normal => resL P s.t s.m fn.results.toList fun vs => ∃ σ, endM σ k o m' s.m vs
  | .ret => resL P s.t s.m fn.results.toList fun vs => ∃ σ, endM σ k o m' s.m vs
  | .exit _ => False

def initL : Nat → List T → List (Nat × T)
  | _, [] => []
  | k, t :: r => (k, t) :: initL (k + 1) r

theorem look_initL (k : Nat) (ts : List T) (i : Nat) : look (initL k ts) i = if k ≤ i then (match ts[i - k]? with | some t => t | none => .dead) else .dead := by
  induction ts generalizing k with
  | nil => simp [initL, look]
  | cons t r ih =>
    by_cases h : k = i
    · subst h; simp [initL, look]
    · simp only [initL, look, beq_ne h, cond_false, ih]
      by_cases h1 : k ≤ i
      · have h2 : k + 1 ≤ i := by omega
        have h3 : i - k = (i - (k + 1)) + 1 := by omega
        rw [if_pos h1, if_pos h2, h3, List.getElem?_cons_succ]
      · rw [if_neg h1, if_neg (by omega)]

section
variable {P : Program} {X0 : Xs} {P0 : Pl} {W : Nat → Prop} {w0 : World} {X X' : Xs} {pl pl' : Pl} {w w' : World} {t : List (Nat × T)} {m m' : Mem} {n x : Nat} {a : Act}

def resF (tmps : Array Value) : ResultVar → Sem Value
  | .tmp t => pure (tmps.getD t undef)
  | .cell a t => do loadVar t (← asAddr (tmps.getD a undef))
theorem results_eq (fn : Func) (tmps : Array Value) : results fn tmps = (do let vs ← fn.results.mapM (resF tmps); pure (if h : vs.size = 1 then vs[0] else .tuple vs)) := by
  unfold results
  rfl

theorem resL_ok (henv : EnvOk X pl w t a) (hm : MRel X W pl w m) : ∀ (l : List ResultVar) (K : List T → Prop), resL P t m l K →
    ∃ (ts : List T) (vs : List Value), K ts ∧ ts.length = vs.length ∧ (∀ (i : Nat) (x : T) (v : Value), ts[i]? = some x → vs[i]? = some v → VRel X pl w x v) ∧
      (l.mapM (resF a.tmps)).run P w = .ok vs w
  | [], K, h => ⟨[], [], h, rfl, by simp, by simp⟩
  | .tmp i :: r, K, h => by
    simp only [resL] at h
    obtain ⟨ts, vs, hK, hl, hh, hr⟩ := resL_ok henv hm r _ (forceT_K h)
    refine ⟨_, a.tmps.getD i undef :: vs, hK, by simp [hl], ?_, ?_⟩
    · intro k y v hy hv
      cases k with
      | zero => simp only [List.getElem?_cons_zero, Option.some.injEq] at hy hv; subst hy hv; exact henv i
      | succ k => exact hh k y v (by simpa using hy) (by simpa using hv)
    · simp only [List.mapM_cons, resF, Sem.run_bind, Sem.run_pure, Result.andThen_ok, hr]
  | .cell i ty :: r, K, h => by
    simp only [resL] at h
    obtain ⟨v, y, hr1, hK1, hv1⟩ := loadA_ok hm (henv i) _ h
    obtain ⟨ts, vs, hK, hl, hh, hr⟩ := resL_ok henv hm r _ hK1
    refine ⟨_, v :: vs, hK, by simp [hl], ?_, ?_⟩
    · intro k y2 v2 hy hv
      cases k with
      | zero => simp at hy hv; subst hy hv; exact hv1
      | succ k => exact hh k y2 v2 (by simpa using hy) (by simpa using hv)
    · have hload : (resF a.tmps (.cell i ty)).run P w = .ok v w := by
        unfold resF
        cases hg : a.tmps.getD i undef with
        | pointer ad =>
          rw [hg] at hr1
          cases ad with
          | none => simp [Instr.loadAt, Instr.sureAddr] at hr1
          | some ad =>
            simp only [Instr.loadAt, Instr.sureAddr, Sem.run_bind, Sem.run_pure, Result.andThen_ok] at hr1
            simp only [hg, asAddr, Sem.run_bind, Sem.run_pure, Result.andThen_ok, hr1]
        | _ => rw [hg] at hr1; simp [Instr.loadAt, Instr.sureAddr] at hr1
      simp only [List.mapM_cons, Sem.run_bind, hload, Sem.run_pure, Result.andThen_ok, hr]

theorem le0_any {t o : T} {v : Value} (h : VRel X pl w t v) (hl : le0 t o) : VRel X pl w o v := by
  rcases hl with rfl | ⟨rfl, sz, rfl⟩ | rfl
  · exact h
  · obtain rfl := h.lit_inv
    exact .sl none sz [] _ (.sl none sz [] none 0 (fun _ _ => undef) (Nat.le_refl _) (by simp) (by simp) (by simp)) (by simp)
  · exact .dead _
theorem leCs_ok : ∀ (a b : List T) (vs : List Value), a.length = vs.length → (∀ (i : Nat) (t : T) (v : Value), a[i]? = some t → vs[i]? = some v → VRel X pl w t v) → leCs a b →
    b.length = vs.length ∧ ∀ (i : Nat) (t : T) (v : Value), b[i]? = some t → vs[i]? = some v → VRel X pl w t v
  | [], [], vs, hl, hh, h => ⟨hl, by simp⟩
  | x :: a, y :: b, [], hl, hh, h => by simp at hl
  | x :: a, y :: b, v :: vs, hl, hh, h => by
    obtain ⟨g1, g2⟩ := leCs_ok a b vs (by simpa using hl) (fun i t v ht hv => hh (i + 1) t v (by simpa using ht) (by simpa using hv)) h.2
    refine ⟨by simp [g1], ?_⟩
    intro i t u ht hv
    cases i with
    | zero => simp at ht hv; subst ht hv; exact le0_any (hh 0 x v rfl rfl) h.1
    | succ i => exact g2 i t u (by simpa using ht) (by simpa using hv)
  | [], _ :: _, vs, hl, hh, h => h.elim
  | _ :: _, [], vs, hl, hh, h => h.elim
theorem le1_any {t o : T} {v : Value} (h : VRel X pl w t v) (hl : le1 t o) : VRel X pl w o v := by
  rcases hl with h1 | h1 | h1 | h1
  · exact le0_any h (.inl h1)
  · exact le0_any h (.inr (.inl h1))
  · exact le0_any h (.inr (.inr h1))
  · unfold leAgg at h1
    split at h1
    · cases h with
      | agg _ vs hl hh =>
        obtain ⟨g1, g2⟩ := leCs_ok _ _ vs hl hh h1
        exact .agg _ vs g1 g2
    · exact h1.elim
theorem le1_ok {t o : T} {v : Value} (h : VRel X (fun _ => none) w t v) (hl : le1 t o) : VRel X (fun _ => none) w o v := le1_any h hl

/-- All that is told of, of results, one by one. -/
def AllK (G : T → (T → Prop) → Prop) : List T → List T → Prop
  | [], [] => True
  | x :: a, y :: b => G x (fun x' => le1 x' y) ∧ AllK G a b
  | _, _ => False
theorem outL_all {m : Mem} : ∀ (a b : List T), outL m a b → AllK (lend m) a b
  | [], [], _ => trivial
  | x :: a, y :: b, h => ⟨h.1, outL_all a b h.2⟩
  | [], _ :: _, h => h.elim
  | _ :: _, [], h => h.elim
theorem outLS_all {σ : List (Nat × Nat)} {m : Mem} : ∀ (a b : List T), outLS σ m a b → AllK (resS σ m) a b
  | [], [], _ => trivial
  | x :: a, y :: b, h => ⟨h.1, outLS_all a b h.2⟩
  | [], _ :: _, h => h.elim
  | _ :: _, [], h => h.elim

section outs
variable {X2 : Xs} {p2 : Pl} {G : T → (T → Prop) → Prop}
theorem AllK_ok (hG : ∀ (t : T) (v : Value) (K : T → Prop), VRel X pl w t v → G t K → ∃ t', K t' ∧ VRel X2 p2 w t' v) : ∀ (ts os : List T) (vs : List Value), ts.length = vs.length → (∀ (i : Nat) (x : T) (v : Value), ts[i]? = some x → vs[i]? = some v → VRel X pl w x v) → AllK G ts os →
    os.length = vs.length ∧ ∀ (i : Nat) (x : T) (v : Value), os[i]? = some x → vs[i]? = some v → VRel X2 p2 w x v
  | [], [], vs, hl, hh, h => ⟨hl, by simp⟩
  | x :: a, y :: b, [], hl, hh, h => by simp at hl
  | x :: a, y :: b, v :: vs, hl, hh, h => by
    obtain ⟨h1, h2⟩ := h
    obtain ⟨t', hle, hv'⟩ := hG x v _ (hh 0 x v rfl rfl) h1
    obtain ⟨g1, g2⟩ := AllK_ok hG a b vs (by simpa using hl) (fun i x v hx hv => hh (i + 1) x v (by simpa using hx) (by simpa using hv)) h2
    refine ⟨by simp [g1], ?_⟩
    intro i x2 v2 hx hv
    cases i with
    | zero => simp at hx hv; subst hx hv; exact le1_any hv' hle
    | succ i => exact g2 i x2 v2 (by simpa using hx) (by simpa using hv)
  | [], _ :: _, vs, hl, hh, h => h.elim
  | _ :: _, [], vs, hl, hh, h => h.elim

theorem out_ok (hG : ∀ (t : T) (v : Value) (K : T → Prop), VRel X pl w t v → G t K → ∃ t', K t' ∧ VRel X2 p2 w t' v) {ts : List T} {vs : List Value} {o : T} (hl : ts.length = vs.length)
    (hh : ∀ (i : Nat) (x : T) (v : Value), ts[i]? = some x → vs[i]? = some v → VRel X pl w x v)
    (h : (∃ a b, one ts = .tup a ∧ o = .tup b ∧ AllK G a b) ∨ G (one ts) fun t' => le1 t' o) :
    VRel X2 p2 w o (if h : vs.toArray.size = 1 then vs.toArray[0] else .tuple vs.toArray) := by
  have single : ∀ {t : T} {v : Value}, VRel X pl w t v → ((∃ a b, t = .tup a ∧ o = .tup b ∧ AllK G a b) ∨ G t fun t' => le1 t' o) → VRel X2 p2 w o v := by
    intro t v hv ho
    rcases ho with ⟨a, b, rfl, rfl, hk⟩ | ho
    · cases hv with
      | tup _ vs hl hh =>
        obtain ⟨g1, g2⟩ := AllK_ok hG _ _ vs hl hh hk
        exact .tup _ vs g1 g2
    · obtain ⟨t', hle, hv'⟩ := hG t v _ hv ho
      exact le1_any hv' hle
  match ts, vs, hl with
  | [t], [v], _ =>
    have h1 := hh 0 t v rfl rfl
    simp only [one] at h
    simpa using single h1 h
  | [], [], _ =>
    have := VRel.tup (X := X) (pl := pl) (w := w) ([] : List T) [] rfl (by simp)
    have h2 : VRel X2 p2 w o (.tuple ([] : List Value).toArray) := single (t := .tup []) this h
    simpa using h2
  | t1 :: t2 :: ts, v1 :: v2 :: vs, hl =>
    have := VRel.tup (X := X) (pl := pl) (w := w) (t1 :: t2 :: ts) (v1 :: v2 :: vs) hl hh
    have h2 := single (t := .tup (t1 :: t2 :: ts)) this h
    simpa using h2
end outs

theorem outOk_or {m : Mem} {ts : List T} {o : T} (h : outOk m (one ts) o) : (∃ a b, one ts = .tup a ∧ o = .tup b ∧ AllK (lend m) a b) ∨ lend m (one ts) fun t' => le1 t' o := by
  unfold outOk at h
  split at h
  · rename_i a b e
    exact .inl ⟨_, _, e, rfl, outL_all _ _ h⟩
  · exact .inr h
theorem outS_or {σ : List (Nat × Nat)} {m : Mem} {ts : List T} {o : T} (h : outS σ m (one ts) o) : (∃ a b, one ts = .tup a ∧ o = .tup b ∧ AllK (resS σ m) a b) ∨ resS σ m (one ts) fun t' => le1 t' o := by
  unfold outS at h
  split at h
  · rename_i a b e
    exact .inl ⟨_, _, e, rfl, outLS_all _ _ h⟩
  · exact .inr h

theorem init_env {ts : List T} {args : List Value} {n : Nat} (hlen : ts.length = args.length) (hargs : ∀ (i : Nat) (t : T) (v : Value), ts[i]? = some t → args[i]? = some v → VRel X pl w t v) :
    EnvOk X pl w (initL 0 ts) { tmps := args.toArray ++ Array.replicate n undef, defers := [] } := by
  intro i
  rw [look_initL, if_pos (Nat.zero_le _), Nat.sub_zero]
  cases hi : ts[i]? with
  | none => exact .dead _
  | some t =>
    have hit : i < ts.length := (List.getElem?_eq_some_iff.1 hi).1
    have hia : i < args.length := by omega
    have := hargs i t args[i] hi (by simp [hia])
    simp only [Array.getD_eq_getD_getElem?]
    rw [Array.getElem?_append_left (by simpa using hia)]
    simpa [hia] using this

/-- A function of data, by its code. -/
theorem FCv_of_awp {f : FuncId} {fn : Func} {c : Code} {ts : List T} {o : T} (hf : P.funcs[f]? = some fn) (hb : fn.body = some c) (hn : ts.length ≤ fn.ntmps) (rl : List Nat)
    (h : awp P c (retQ P fn o) ⟨initL 0 ts, [], fn.ntmps, 0, rl⟩) : FCv P f ts o := by
  intro X w args hXin hG hlen hargs
  refine calls_of_wp hf hb ?_
  have hst : St X (fun _ => none) (fun b => w.heap.size ≤ b) w (initL 0 ts) [] fn.ntmps 0 X (fun _ => none) { tmps := args.toArray ++ Array.replicate (fn.ntmps - args.toArray.size) undef, defers := [] } w := by
    refine ⟨init_env hlen hargs, ⟨by simp [Mem.get], by simp, by simp, fun b off h => ⟨hXin b off h, by simp⟩, hG⟩, by simp; omega, by simp, .refl _ _, .refl _ _, fun _ _ h => .inl h, fun _ h => h, rfl, .refl _ _⟩
  refine wp_mono (awp_ok c _ _ _ _ h ⟨by simp, X, _, hst⟩) ?_
  rintro e a' w' ⟨ex, s', hex, hq, _, X', pl', hs'⟩
  have key : resL P s'.t s'.m fn.results.toList (fun vs => outOk s'.m (one vs) o) → a'.defers = [] ∧ ∃ v, (results fn a'.tmps).run P w' = .ok v w' ∧
      ∃ v2 X2, Ending.returned v = .returned v2 ∧ XMono X X2 w w' ∧ Ext (fun b => w.heap.size ≤ b) w w' ∧ (∀ b off, X2 b off → b < w'.heap.size ∧ (X b off ∨ w.heap.size ≤ b)) ∧ VRel X2 (fun _ => none) w' o v2 := by
    intro hr
    obtain ⟨rs, vs, hK, hl, hh, hrun⟩ := resL_ok hs'.env hs'.mem _ _ hr
    have hx2 : XMono X' (fun b off => X' b off ∨ (w.heap.size ≤ b ∧ b < w'.heap.size)) w' w' := fun b off h => ⟨.inl h, rfl⟩
    refine ⟨hs'.calm, _, ?_, _, _, rfl, hs'.mono.trans hx2, hs'.ext, ?_, out_ok (X2 := fun b off => X' b off ∨ (w.heap.size ≤ b ∧ b < w'.heap.size)) (p2 := fun _ => none) (G := lend s'.m) ?_ hl hh (outOk_or hK)⟩
    · have e1 : fn.results = fn.results.toList.toArray := by simp
      rw [results_eq, e1, List.mapM_toArray]
      simp only [Sem.run_bind, Sem.run_map, hrun, Result.andThen_ok, Sem.run_pure]
    · intro b off hb
      rcases hb with hb | hb
      · exact ⟨(hs'.mem.xin b off hb).1, hs'.news b off hb⟩
      · exact ⟨hb.2, .inr hb.1⟩
    · intro t v K hv hg
      exact lend_ok2 hx2 hs'.mem (fun id _ l b off hl hb => .inr (hs'.mem.placed id l b hl hb)) hv hg
  cases ex <;> cases e <;> simp only [exRel] at hex
  · exact key hq
  · exact key hq
  · exact hq.elim

/-- Where an id of a result comes from. -/
def asInv : List (Nat × Nat) → Nat → Option Nat
  | [], _ => none
  | (i, j) :: r, k => if j = k then some i else asInv r k
theorem asInv_some : ∀ {σ : List (Nat × Nat)} {j i : Nat}, asInv σ j = some i → (i, j) ∈ σ
  | [], j, i, h => by simp [asInv] at h
  | (a, b) :: r, j, i, h => by
    simp only [asInv] at h
    split at h
    · rename_i e; cases h; subst e; simp
    · exact List.mem_cons_of_mem _ (asInv_some h)
theorem asGet_mem : ∀ {σ : List (Nat × Nat)} {i : Nat}, asHas σ i = true → (i, asGet σ i) ∈ σ
  | [], i, h => by simp [asHas] at h
  | (a, b) :: r, i, h => by
    simp only [asHas, asGet] at h ⊢
    cases e : Nat.beq a i with
    | true => obtain rfl := Nat.eq_of_beq_eq_true e; simp
    | false => simp only [e, cond_false] at h ⊢; exact List.mem_cons_of_mem _ (asGet_mem h)
theorem mem_asHas : ∀ {σ : List (Nat × Nat)} {i j : Nat}, (i, j) ∈ σ → asHas σ i = true
  | [], i, j, h => by cases h
  | (a, b) :: r, i, j, h => by
    simp only [asHas]
    cases e : Nat.beq a i with
    | true => rfl
    | false =>
      rcases List.mem_cons.1 h with h | h
      · cases h; simp at e
      · exact mem_asHas h
theorem asInv_get : ∀ {σ : List (Nat × Nat)} {i j : Nat}, (σ.map (·.2)).Nodup → (i, j) ∈ σ → asInv σ j = some i
  | [], i, j, _, h => by cases h
  | (a, b) :: r, i, j, hn, h => by
    simp only [List.map_cons, List.nodup_cons] at hn
    simp only [asInv]
    rcases List.mem_cons.1 h with h | h
    · cases h; simp
    · have : b ≠ j := fun e => by subst e; exact hn.1 (List.mem_map.2 ⟨_, h, rfl⟩)
      rw [if_neg this]; exact asInv_get hn.2 h
theorem nodup_fst : ∀ {σ : List (Nat × Nat)} {i j k : Nat}, (σ.map (·.1)).Nodup → (i, j) ∈ σ → (i, k) ∈ σ → j = k
  | [], i, j, k, _, h, _ => by cases h
  | (a, b) :: r, i, j, k, hn, h, h' => by
    simp only [List.map_cons, List.nodup_cons] at hn
    rcases List.mem_cons.1 h with h | h <;> rcases List.mem_cons.1 h' with h' | h'
    · cases h; cases h'; rfl
    · cases h; exact absurd (List.mem_map.2 ⟨_, h', rfl⟩) hn.1
    · cases h'; exact absurd (List.mem_map.2 ⟨_, h, rfl⟩) hn.1
    · exact nodup_fst hn.2 h h'
theorem keepB_get {σ : List (Nat × Nat)} : ∀ {k : Nat}, keepB σ k = true → ∀ i, i < k → asHas σ i = true ∧ asGet σ i = i
  | 0, _, i, h => by omega
  | k + 1, hk, i, h => by
    simp only [keepB, Bool.and_eq_true] at hk
    by_cases e : i = k
    · subst e; exact ⟨hk.1, Nat.eq_of_beq_eq_true hk.2.1⟩
    · exact keepB_get hk.2.2 i (by omega)
theorem memKeep_get {σ : List (Nat × Nat)} : ∀ {m' : Mem}, memKeep σ m m' → ∀ {j : Nat} {c : Blk}, m'.get j = some c → ∃ i b, asHas σ i = true ∧ asGet σ i = j ∧ m.get i = some b ∧ renB σ b = c ∧ domB σ b
  | [], _, j, c, h => by simp [Mem.get] at h
  | (k, d) :: r, hm, j, c, h => by
    simp only [Mem.get] at h
    cases e : Nat.beq k j with
    | true =>
      obtain rfl := Nat.eq_of_beq_eq_true e
      simp only [e, cond_true, Option.some.injEq] at h
      subst h
      exact hm.1
    | false => simp only [e, cond_false] at h; exact memKeep_get hm.2 h

/-- A function that changes memory, by its code. -/
theorem FCm_of_awp {f : FuncId} {fn : Func} {c : Code} {ts : List T} {m0 : Mem} {k : Nat} {o : T} {m1 : Mem} (hf : P.funcs[f]? = some fn) (hb : fn.body = some c) (hn : ts.length ≤ fn.ntmps) (rl : List Nat) (hk : kOf rl = k)
    (h : awp P c (retM P fn k o m1) ⟨initL 0 ts, m0, fn.ntmps, k, rl⟩) : FCm P f ts m0 k o m1 := by
  intro X W pl w args hm hW hpk hlen hargs
  refine calls_of_wp hf hb ?_
  have hst : St X pl W w (initL 0 ts) m0 fn.ntmps k X pl { tmps := args.toArray ++ Array.replicate (fn.ntmps - args.toArray.size) undef, defers := [] } w := by
    refine ⟨init_env hlen hargs, hm, by simp; omega, ?_, .refl _ _, .refl _ _, fun _ _ h => .inl h, hW, rfl, .refl _ _⟩
    intro id hid
    cases e : pl id with
    | none => rfl
    | some l => have := hpk id l e; omega
  refine wp_mono (awp_ok c _ _ _ _ h ⟨fun id l hl => by rw [hk]; exact hpk id l hl, X, _, hst⟩) ?_
  rintro e a' w' ⟨ex, s', hex, hq, _, X', pl', hs'⟩
  have key : resL P s'.t s'.m fn.results.toList (fun vs => ∃ σ, endM σ k o m1 s'.m vs) → a'.defers = [] ∧ ∃ v, (results fn a'.tmps).run P w' = .ok v w' ∧
      ∃ v2 X2 p2, Ending.returned v = .returned v2 ∧ XMono X X2 w w' ∧ PMono pl p2 w w' ∧ Ext W w w' ∧ MRel X2 W p2 w' m1 ∧ (∀ b off, X2 b off → X b off ∨ W b) ∧ VRel X2 p2 w' o v2 := by
    intro hr
    obtain ⟨rs, vs, ⟨σ, ⟨hkeep, hn1, hn2⟩, hout, hmk⟩, hl, hh, hrun⟩ := resL_ok hs'.env hs'.mem _ _ hr
    have nd1 := nodupB_nodup hn1
    have nd2 := nodupB_nodup hn2
    let p2 : Pl := fun j => match asInv σ j with | some i => pl' i | none => none
    let X2 : Xs := fun b off => X' b off ∨ ∃ id l, asHas σ id = false ∧ pl' id = some l ∧ l.blk = some b
    have hx2 : XMono X' X2 w' w' := fun b off h => ⟨.inl h, rfl⟩
    have hR : Ren σ pl' p2 := by
      intro i hi
      simp only [p2, asInv_get nd2 (asGet_mem hi)]
    have hp2 : ∀ j l, p2 j = some l → ∃ i, (i, j) ∈ σ ∧ pl' i = some l := by
      intro j l hl
      simp only [p2] at hl
      split at hl
      · rename_i i e; exact ⟨i, asInv_some e, hl⟩
      · cases hl
    refine ⟨hs'.calm, _, ?_, _, X2, p2, rfl, hs'.mono.trans hx2, ?_, hs'.ext, ?_, ?_, out_ok (X2 := X2) (p2 := p2) (G := resS σ s'.m) ?_ hl hh (outS_or hout)⟩
    · have e1 : fn.results = fn.results.toList.toArray := by simp
      rw [results_eq, e1, List.mapM_toArray]
      simp only [Sem.run_bind, Sem.run_map, hrun, Result.andThen_ok, Sem.run_pure]
    · intro id l hl
      obtain ⟨h1, h2⟩ := keepB_get hkeep id (hpk id l hl)
      have h3 : p2 id = pl' id := by have := hR id h1; rwa [h2] at this
      have := hs'.pm id l hl
      rw [h3]; exact this
    · refine ⟨?_, ?_, ?_, ?_, hs'.mem.glob.mono hx2⟩
      · intro j c hc
        obtain ⟨i, b, h1, h2, h3, h4, h5⟩ := memKeep_get hmk hc
        obtain ⟨l, hl, hbk⟩ := hs'.mem.blk i b h3
        refine ⟨l, by rw [← h2, hR i h1]; exact hl, ?_⟩
        rw [← h4]
        exact (renB_rel hR h5).2 (hbk.mono hx2 (.refl _ _) fun _ _ => rfl)
      · intro j l b hl hb
        obtain ⟨i, _, hi⟩ := hp2 j l hl
        exact hs'.mem.placed i l b hi hb
      · intro j j' l l' b hl hl' hb hb'
        obtain ⟨i, h1, hi⟩ := hp2 j l hl
        obtain ⟨i', h1', hi'⟩ := hp2 j' l' hl'
        have := hs'.mem.apart i i' l l' b hi hi' hb hb'
        subst this
        exact nodup_fst nd1 h1 h1'
      · intro b off hx
        rcases hx with hx | ⟨id, l, h1, h2, h3⟩
        · obtain ⟨g1, g2⟩ := hs'.mem.xin b off hx
          exact ⟨g1, fun j l hl => by obtain ⟨i, _, hi⟩ := hp2 j l hl; exact g2 i l hi⟩
        · refine ⟨(hs'.mem.placed id l b h2 h3).2, fun j l' hl' => ?_⟩
          obtain ⟨i, hij, hi⟩ := hp2 j l' hl'
          refine free_of_ne fun b' hb' e => ?_
          subst e
          have := hs'.mem.apart id i l l' b' h2 hi h3 hb'
          subst this
          rw [mem_asHas hij] at h1; cases h1
    · intro b off hx
      rcases hx with hx | ⟨id, l, _, h2, h3⟩
      · exact hs'.news b off hx
      · exact .inr (hs'.mem.placed id l b h2 h3).1
    · intro t v K hv hg
      unfold resS at hg
      split at hg
      · rename_i hd
        rw [forceT_eq] at hg
        exact ⟨_, hg, (renT_rel hR hd).2 (hv.mono hx2 (.refl _ _))⟩
      · obtain ⟨hids, hg⟩ := chk_elim hg
        obtain ⟨t', h1, h2⟩ := lend_ok2 hx2 hs'.mem (fun id hid l b off hl hb => .inr ⟨id, l, by have := List.all_eq_true.1 hids id hid; simpa using this, hl, hb⟩) hv hg
        exact ⟨t', h1, none_any h2⟩
  cases ex <;> cases e <;> simp only [exRel] at hex
  · exact key hq
  · exact key hq
  · exact hq.elim

end
end Go.AW
