/- Soundness: every operation. -/
import Derived.Test.YtciboampiaainaaDoorAw16b
set_option linter.unusedVariables false
set_option linter.unusedSimpArgs false
namespace Go.AW
open Go

section
variable {P : Program} {X X' : Xs} {W : Nat → Prop} {pl : Pl} {w w' : World} {m : Mem}

theorem bv_none {t : T} {v : Value} (h : VRel X pl w t v) (hb : bvA t = true) : VRel X (fun _ => none) w (untokA t) v := by
  by_cases hx : ∃ ts, t = .agg ts
  · obtain ⟨ts, rfl⟩ := hx
    obtain ⟨vs, rfl, hl, hh⟩ := h.agg_inv
    simp only [bvA] at hb
    refine .agg _ vs (by simpa using hl) ?_
    intro i x v hx hv
    simp only [List.getElem?_map] at hx
    cases e : ts[i]? with
    | none => simp [e] at hx
    | some y =>
      simp [e] at hx
      subst hx
      have hy := List.all_eq_true.1 hb y (List.mem_of_getElem? e)
      have h1 := (hh i y v e hv).bv hy
      have h2 := h1.vrel (pl := fun _ => none)
      cases y <;> first | (simp [bvOk] at hy; done) | exact h2
  · have hbb : bvOk t = true := by cases t <;> first | exact hb | (exfalso; exact hx ⟨_, rfl⟩)
    have h1 := (h.bv hbb).vrel (pl := fun _ => none)
    cases t <;> first | (simp [bvOk] at hbb; done) | exact h1

theorem bvL_get {ts : List T} (h : bvL ts = true) : ∀ (i : Nat) (t : T), ts[i]? = some t → bvA t = true := by
  induction ts with
  | nil => simp
  | cons x r ih =>
    simp only [bvL, Bool.and_eq_true] at h
    intro i t ht
    cases i with
    | zero => simp at ht; subst ht; exact h.1
    | succ i => exact ih h.2 i t (by simpa using ht)

theorem none_any {t : T} {v : Value} (h : VRel X (fun _ => none) w t v) : VRel X pl w t v :=
  h.mono (.refl _ _) (fun id l hl => by cases hl)

theorem forceT_K {t : T} {K : T → Prop} (h : forceT t K) : K t := by rwa [forceT_eq] at h

/-- What a call of data leaves its caller. -/
theorem call_step (hm : MRel X W pl w m) (hW : ∀ b, w.heap.size ≤ b → W b) {o : T} {v : Value} {id : Option Nat}
    (hx : XMono X X' w w') (he : Ext (fun b => w.heap.size ≤ b) w w') (hX : ∀ b off, X' b off → b < w'.heap.size ∧ (X b off ∨ w.heap.size ≤ b)) (hv : VRel X' (fun _ => none) w' o v) :
    StepOk X W pl w id m o v w' := by
  have hk : ∀ b, b < w.heap.size → w'.heap[b]? = w.heap[b]? := fun b hb => he.keep b hb (by omega)
  have hp : PMono pl pl w w' := by
    intro i li hi
    refine ⟨⟨li, hi, li.le_refl⟩, ?_⟩
    rintro b sz rfl _ n hr
    exact roomy_of_heap (hk b (hm.placed i _ b hi rfl).2) hr
  refine ⟨X', pl, hx, hp, fun _ _ h => h, he.weaken fun b _ h => hW b h, ?_, none_any hv, fun b off h => (hX b off h).2.imp (fun h => h) (hW b)⟩
  constructor
  · intro i blk hi
    obtain ⟨l, hl, hb⟩ := hm.blk i blk hi
    exact ⟨l, hl, hb.mono hx hp fun b hbb => hk b (hm.placed i l b hl hbb).2⟩
  · intro i l b hi hb
    obtain ⟨h1, h2⟩ := hm.placed i l b hi hb
    exact ⟨h1, Nat.lt_of_lt_of_le h2 he.size⟩
  · exact hm.apart
  · intro b off h
    refine ⟨(hX b off h).1, fun i l hi => ?_⟩
    rcases (hX b off h).2 with h2 | h2
    · exact (hm.xin b off h2).2 i l hi
    · exact free_of_new (fun b' hb' => (hm.placed i l b' hi hb').2) h2
  · exact hm.glob.mono hx

/-- All that lies there now. -/
def Xold (w : World) : Xs := fun b _ => b < w.heap.size

theorem to_old (hm : MRel X W pl w m) : XMono X (Xold w) w w := fun b off h => ⟨(hm.xin b off h).1, rfl⟩

theorem bvN_brel {t : T} {v : Value} (hb : bvN t = true) (h : VRel X pl w t v) : BRel X w t v ∧ v.oneCell' = true := by
  cases h with
  | lit v => exact ⟨.lit v, hb⟩
  | sl tok sz rows v h ht =>
    refine ⟨h, ?_⟩
    generalize hu : (T.sl tok sz rows) = u at h
    cases h <;> first | rfl | cases hu
  | ifc t x v h => exact ⟨.ifc t x v h, rfl⟩
  | _ => simp [bvN] at hb

theorem lend_ok2 {X2 : Xs} (old : XMono X X2 w w) (hm : MRel X W pl w m) {t : T} (hp2 : ∀ id ∈ idsT t, ∀ l b off, pl id = some l → l.blk = some b → X2 b off) {v : Value} (hv : VRel X pl w t v) {K : T → Prop} (h : lend m t K) : ∃ t', K t' ∧ VRel X2 (fun _ => none) w t' v := by
  unfold lend at h
  split at h
  · rename_i id lo len
    split at h <;> try (exact h.elim)
    rename_i sz rows hg
    obtain ⟨⟨hle, hbv⟩, hK⟩ := h
    refine ⟨_, hK, .sl none _ _ _ ?_ (by simp)⟩
    have hlen : ((rows.drop lo).take len).length = len := by simp; omega
    obtain ⟨l, hl, hb⟩ := hm.blk id _ hg
    have zero : ∀ (a : Option Addr) (cap : Nat), len = 0 → BRel (X2) w (.sl none sz ((rows.drop lo).take len)) (.slice a 0 cap) := by
      intro a cap h0
      have : (rows.drop lo).take len = [] := by rw [h0]; rfl
      rw [this]
      exact .sl none sz [] a cap (fun _ _ => undef) (Nat.zero_le _) (by simp) (by simp) (by simp)
    cases hv with
    | srefn _ hp => exact zero _ _ rfl
    | srefz _ _ b sz' a hp => exact zero _ _ rfl
    | sref _ _ _ b sz' cap hp hcap hroom =>
      replace hp := own_pl hm hg hp
      rw [hl] at hp
      cases hp
      rcases hb with ⟨h1, _⟩ | ⟨b2, e, cs, el, fr, h1, h2, h3, h4⟩
      · cases h1
      · cases e
        have key := BRel.sl (X := X2) (w := w) none sz ((rows.drop lo).take len) (some ⟨b, lo * sz, none⟩) cap (fun i j => cs.getD ((lo + i) * sz + j) undef)
          (by rw [hlen]; exact hcap) ?_ ?_ ?_
        · rw [hlen] at key; exact key
        · intro i row hr
          have hr' : rows[lo + i]? = some row := by
            rw [List.getElem?_take] at hr
            split at hr
            · rwa [List.getElem?_drop] at hr
            · cases hr
          exact (h4 _ row hr').1
        · intro i row hr
          have hmem := List.mem_of_getElem? hr
          have hr' : rows[lo + i]? = some row := by
            rw [List.getElem?_take] at hr
            split at hr
            · rwa [List.getElem?_drop] at hr
            · cases hr
          refine ⟨b, lo * sz, rfl, fun j hj => ?_⟩
          obtain ⟨hsz, hc⟩ := h4 _ row hr'
          obtain ⟨t, ht⟩ : ∃ t, row[j]? = some t := ⟨row[j]'(by omega), List.getElem?_eq_getElem _⟩
          obtain ⟨v, hv1, hv2⟩ := hc j t ht
          have e1 : cs.getD ((lo + i) * sz + j) undef = v := by simp [Array.getD_eq_getD_getElem?, hv1]
          have e2 : lo * sz + i * sz + j = (lo + i) * sz + j := by rw [Nat.add_mul]
          refine ⟨hp2 id (by simp [idsT]) _ b _ hl rfl, ?_, ?_⟩
          · rw [e1, e2]
            simp only [World.cell?, h1]
            exact hv1
          · rw [e1]; exact (bvN_brel (hbv row hmem t (List.mem_of_getElem? ht)) hv2).2
        · intro i row j t hr ht
          have hmem := List.mem_of_getElem? hr
          have hr' : rows[lo + i]? = some row := by
            rw [List.getElem?_take] at hr
            split at hr
            · rwa [List.getElem?_drop] at hr
            · cases hr
          obtain ⟨v, hv1, hv2⟩ := (h4 _ row hr').2 j t ht
          have e1 : cs.getD ((lo + i) * sz + j) undef = v := by simp [Array.getD_eq_getD_getElem?, hv1]
          rw [e1]
          exact (bvN_brel (hbv row hmem t (List.mem_of_getElem? ht)) hv2).1.mono old
  · rename_i id row off
    split at h <;> try (exact h.elim)
    rename_i sz rows hg
    obtain ⟨r, hr, hbv, hK⟩ := nthK_elim h
    refine ⟨_, hK, ?_⟩
    obtain ⟨l, hl, hb⟩ := hm.blk id _ hg
    cases hv with
    | ptr _ _ _ b sz' hp =>
      replace hp := own_pl hm hg hp
      rw [hl] at hp
      cases hp
      rcases hb with ⟨h1, _⟩ | ⟨b2, e, cs, el, fr, h1, h2, h3, h4⟩
      · cases h1
      · cases e
        refine .vp r off b (row * sz) (fun j => cs.getD (row * sz + j) undef) ?_
        intro j t ht
        obtain ⟨v, hv1, hv2⟩ := (h4 _ r hr).2 j t ht
        have e1 : cs.getD (row * sz + j) undef = v := by simp [Array.getD_eq_getD_getElem?, hv1]
        refine ⟨hp2 id (by simp [idsT]) _ b _ hl rfl, ?_, ?_⟩
        · rw [e1]; simp only [World.cell?, h1]; exact hv1
        · rw [e1]; exact (bvN_brel (hbv t (List.mem_of_getElem? ht)) hv2).1.mono old
  · rename_i r off
    refine ⟨_, h.2, ?_⟩
    cases hv with
    | vp _ _ b o cs hh => exact .vp r off b o cs fun j t ht => ⟨((old _ _ (hh j t ht).1)).1, (hh j t ht).2.1, (hh j t ht).2.2.mono old⟩
  · obtain ⟨hb, hK⟩ := chk_elim h
    rw [forceT_eq] at hK
    exact ⟨_, hK, (bv_none hv hb).mono old (.refl _ _)⟩

theorem lend_ok (hm : MRel X W pl w m) {t : T} {v : Value} (hv : VRel X pl w t v) {K : T → Prop} (h : lend m t K) : ∃ t', K t' ∧ VRel (Xold w) (fun _ => none) w t' v :=
  lend_ok2 (to_old hm) hm (fun id _ l b off hl hb => (hm.placed id l b hl hb).2) hv h

theorem lendL_ok (hm : MRel X W pl w m) : ∀ (ts : List T) (vs : List Value) (K : List T → Prop), ts.length = vs.length → (∀ (i : Nat) (t : T) (v : Value), ts[i]? = some t → vs[i]? = some v → VRel X pl w t v) → lendL m ts K →
    ∃ ts', K ts' ∧ ts'.length = vs.length ∧ ∀ (i : Nat) (t : T) (v : Value), ts'[i]? = some t → vs[i]? = some v → VRel (Xold w) (fun _ => none) w t v
  | [], [], K, hl, hh, h => ⟨[], h, rfl, by simp⟩
  | t :: r, v :: vs, K, hl, hh, h => by
    obtain ⟨t', h1, hv'⟩ := lend_ok hm (hh 0 t v rfl rfl) h
    obtain ⟨r', hK, hl', hh'⟩ := lendL_ok hm r vs _ (by simpa using hl) (fun i t v ht hv => hh (i + 1) t v (by simpa using ht) (by simpa using hv)) h1
    refine ⟨_, hK, by simp [hl'], ?_⟩
    intro i t2 v2 ht hv
    cases i with
    | zero => simp at ht hv; subst ht hv; exact hv'
    | succ i => exact hh' i t2 v2 (by simpa using ht) (by simpa using hv)
  | [], _ :: _, K, hl, hh, h => by simp at hl
  | _ :: _, [], K, hl, hh, h => by simp at hl

theorem lendL_bv : ∀ (ts : List T) (K : List T → Prop), bvL ts = true → lendL m ts K → K (ts.map untokA)
  | [], K, _, h => h
  | t :: r, K, hb, h => by
    simp only [bvL, Bool.and_eq_true] at hb
    have h1 : lendL m r fun r' => K (untokA t :: r') := by
      unfold lendL lend at h
      split at h
      · simp [bvA, bvOk] at hb
      · simp [bvA, bvOk] at hb
      · simp [bvA, bvOk] at hb
      · have := (chk_elim h).2; rwa [forceT_eq] at this
    exact lendL_bv r _ hb.2 h1

theorem nolink_any {o : T} (h : nolink o = true) {X' : Xs} {pl' : Pl} {v : Value} (hv : VRel X pl w o v) : VRel X' pl' w o v := by
  cases o with
  | lit u => obtain rfl := hv.lit_inv; exact .lit _
  | agg cs =>
    obtain ⟨vs, rfl, hl, hh⟩ := hv.agg_inv
    refine .agg cs vs hl fun i t v ht hv => ?_
    have := List.all_eq_true.1 h t (List.mem_of_getElem? ht)
    cases t <;> first | (simp at this; done) | skip
    have h2 := hh i _ v ht hv
    obtain rfl := h2.lit_inv
    exact .lit _
  | tup cs =>
    cases hv with
    | tup _ vs hl hh =>
      refine .tup cs vs hl fun i t v ht hv => ?_
      have := List.all_eq_true.1 h t (List.mem_of_getElem? ht)
      cases t <;> first | (simp at this; done) | skip
      have h2 := hh i _ v ht hv
      obtain rfl := h2.lit_inv
      exact .lit _
  | _ => simp [nolink] at h

theorem partsOf_ok {ρ : List (Nat × T)} {a : Act} (h : EnvOk X pl w ρ a) (ps : Array (Nat × Operand)) :
    PartsOk X pl w (partsOf ρ ps) (ps.map fun (i, x) => (i, a.eval x)).toList := by
  refine ⟨by simp [partsOf], ?_⟩
  intro i j j' x v hx hv
  simp only [partsOf, List.getElem?_map] at hx
  simp only [Array.toList_map, List.getElem?_map] at hv
  cases e : ps.toList[i]? with
  | none => simp [e] at hx
  | some p =>
    obtain ⟨k, q⟩ := p
    simp [e] at hx hv
    obtain ⟨rfl, rfl⟩ := hx
    obtain ⟨rfl, rfl⟩ := hv
    exact ⟨rfl, ev_ok h q⟩

theorem evs_ok {ρ : List (Nat × T)} {a : Act} (h : EnvOk X pl w ρ a) (args : Array Operand) :
    ∀ (i : Nat) (t : T) (v : Value), (args.toList.map (ev ρ))[i]? = some t → ((args.map a.eval).toList)[i]? = some v → VRel X pl w t v := by
  intro i t v ht hv
  simp only [Array.toList_map, List.getElem?_map] at ht hv
  cases e : args.toList[i]? with
  | none => simp [e] at ht
  | some x => simp [e] at ht hv; subst ht hv; exact ev_ok h x

theorem bound_ok {ρ : List (Nat × T)} {a : Act} (h : EnvOk X pl w ρ a) (o : Option Operand) : BoundOk X pl w (o.map (ev ρ)) (o.map a.eval) := by
  cases o with
  | none => exact .inl ⟨rfl, rfl⟩
  | some x => exact .inr ⟨_, _, rfl, rfl, ev_ok h x⟩

theorem ptr_val {i r o : Nat} {v : Value} (h : VRel X pl w (.ptr i r o) v) : ∃ ad, v = .pointer (some ad) := by cases h; exact ⟨_, rfl⟩
theorem vp_val {r : List T} {o : Nat} {v : Value} (h : VRel X pl w (.vp r o) v) : ∃ ad, v = .pointer (some ad) := by cases h; exact ⟨_, rfl⟩

section op
variable {o : Oper} {a : Act} {next : Act → World → Prop} {Q : Exit → Act → World → Prop} {K : T → Mem → Prop} {id : Nat}

theorem wp_of_op {id : Option Nat} {f : Sem Value} (hf : (execOp a.eval o).run P w = (f.run P w).andThen fun v w' => .ok (.value v) w') (h : OpOk P X W pl w id f K)
    (hn : ∀ v t m' w', K t m' → StepOk X W pl w id m' t v w' → next (a.put o.dst v) w') : o.wp P a w next Q := by
  obtain ⟨v, t, m', w', hr, hK, hs⟩ := h
  unfold Oper.wp
  rw [hf, hr]
  exact hn v t m' w' hK hs

theorem run_v (f : Sem Value) : (do pure (Next.value (← f)) : Sem Next).run P w = (f.run P w).andThen fun v w' => .ok (.value v) w' := by
  simp only [Sem.run_bind, Sem.run_pure]

theorem execOp_builtin (c : Call) (b : Builtin) (hc : c.callee = .builtin b) (ho : o.op = .call c) :
    (execOp a.eval o).run P w = (builtin b c.argTypes o.type (c.args.map fun | .const _ => true | _ => false) (c.args.map a.eval)).run P w := by
  unfold execOp
  simp only [ho, resolve, hc, Sem.run_bind, Sem.run_pure, Result.andThen_ok, invoke]
  rfl

theorem opA_ok {ρ : List (Nat × T)} {rl : List Nat} (h : opA P ρ m rl id o K) (hρ : EnvOk X pl w ρ a) (hm : MRel X W pl w m) (hid : pl id = none) (hW : ∀ b, w.heap.size ≤ b → W b)
    (hn : ∀ v t m' w', K t m' → StepOk X W pl w (if isNew o.op then some id else none) m' t v w' → next (a.put o.dst v) w') : o.wp P a w next Q := by
  have mv : ∀ x : Operand, forceT (ev ρ x) (fun v => K v m) → (execOp a.eval o).run P w = .ok (.value (a.eval x)) w → o.wp P a w next Q := by
    intro x hK hr
    unfold Oper.wp
    rw [hr]
    exact hn _ _ _ _ (forceT_K hK) (.same hm _ (ev_ok hρ x))
  cases hop : o.op with
  | move x => simp only [opA, hop] at h; exact mv x h (by simp only [execOp, hop, Sem.run_pure])
  | assign x => simp only [opA, hop] at h; exact mv x h (by simp only [execOp, hop, Sem.run_pure])
  | pick c x y =>
    simp only [opA, hop] at h
    simp only [hop, isNew, Bool.false_eq_true, if_false, if_true] at hn
    have hc := ev_ok hρ c
    unfold pickA at h
    split at h <;> try (exact h.elim)
    rename_i b hcb
    rw [hcb] at hc
    have hcv := hc.lit_inv
    cases b with
    | true => exact mv x (by simpa [br] using h) (by simp [execOp, hop, hcv, asBool])
    | false => exact mv y (by simpa [br] using h) (by simp [execOp, hop, hcv, asBool])
  | alloc t =>
    simp only [opA, hop] at h
    simp only [hop, isNew, Bool.false_eq_true, if_false, if_true] at hn
    exact wp_of_op (by simp only [execOp, hop, run_v]) (allocA_ok hm hid hW K h) hn
  | box t x =>
    simp only [opA, hop] at h
    simp only [hop, isNew, Bool.false_eq_true, if_false, if_true] at hn
    exact wp_of_op (by simp only [execOp, hop, run_v]) (boxA_ok hm hid hW (ev_ok hρ x) K h) hn
  | build t ps =>
    simp only [opA, hop] at h
    simp only [hop, isNew, Bool.false_eq_true, if_false, if_true] at hn
    have := (buildA_ok (partsOf_ok hρ ps) _ h).op hm none (K := K)
    simp only [Array.toArray_toList] at this
    exact wp_of_op (by simp only [execOp, hop, run_v]) this hn
  | buildSlice t n ps =>
    simp only [opA, hop] at h
    simp only [hop, isNew, Bool.false_eq_true, if_false, if_true] at hn
    have := buildSliceA_ok hm hid hW _ (partsOf_ok hρ ps) K h
    simp only [Array.toArray_toList] at this
    exact wp_of_op (by simp only [execOp, hop, run_v]) this hn
  | load t x =>
    simp only [opA, hop] at h
    simp only [hop, isNew, Bool.false_eq_true, if_false, if_true] at hn
    exact wp_of_op (by simp only [execOp, hop, run_v]) ((loadA_ok hm (ev_ok hρ x) _ h).op hm none (K := K)) hn
  | store t x y =>
    simp only [opA, hop] at h
    simp only [hop, isNew, Bool.false_eq_true, if_false, if_true] at hn
    rw [forceT_eq] at h
    obtain ⟨m', w', hr, hK, hs⟩ := storeA_ok hm none (ev_ok hρ x) (ev_ok hρ y) _ h
    unfold Oper.wp
    have : (execOp a.eval o).run P w = .ok .skip w' := by simp only [execOp, hop, Sem.run_bind, hr, Result.andThen_ok, Sem.run_pure]
    rw [this]
    exact hn _ _ _ _ hK hs
  | nilCheck x =>
    simp only [opA, hop] at h
    simp only [hop, isNew, Bool.false_eq_true, if_false, if_true] at hn
    have hx := ev_ok hρ x
    have hp : (∃ ad, a.eval x = .pointer (some ad)) ∧ K (ev ρ x) m := by
      split at h
      · rename_i e
        rw [e] at hx ⊢
        exact ⟨ptr_val hx, h⟩
      · rename_i e
        rw [e] at hx ⊢
        exact ⟨vp_val hx, h⟩
      · exact h.elim
    obtain ⟨⟨ad, hv⟩, hK⟩ := hp
    refine mv x (by rw [forceT_eq]; exact hK) ?_
    unfold execOp
    simp only [hop, hv, Sem.run_pure]
  | binOp op ty x y yt =>
    simp only [opA, hop] at h
    simp only [hop, isNew, Bool.false_eq_true, if_false, if_true] at hn
    exact wp_of_op (by simp only [execOp, hop, run_v]) ((binA_ok op ty x y _ _ _ _ (ev_ok hρ x) (ev_ok hρ y) _ h).op hm none (K := K)) hn
  | unOp op ty x =>
    simp only [opA, hop] at h
    simp only [hop, isNew, Bool.false_eq_true, if_false, if_true] at hn
    exact wp_of_op (by simp only [execOp, hop, run_v]) ((unA_ok op _ _ (ev_ok hρ x) _ h).op hm none (K := K)) hn
  | convert s d x =>
    simp only [opA, hop] at h
    simp only [hop, isNew, Bool.false_eq_true, if_false, if_true] at hn
    exact wp_of_op (by simp only [execOp, hop, run_v]) (convertA_ok hm hid hW _ (ev_ok hρ x) K h) hn
  | makeSlice t l c =>
    simp only [opA, hop] at h
    simp only [hop, isNew, Bool.false_eq_true, if_false, if_true] at hn
    exact wp_of_op (by simp only [execOp, hop, run_v]) (makeSliceA_ok hm hid hW _ (ev_ok hρ l) (ev_ok hρ c) K h) hn
  | slice t x lo hi mx =>
    simp only [opA, hop] at h
    simp only [hop, isNew, Bool.false_eq_true, if_false, if_true] at hn
    exact wp_of_op (by simp only [execOp, hop, run_v]) ((sliceA_ok hm (ev_ok hρ x) (bound_ok hρ lo) (bound_ok hρ hi) (bound_ok hρ mx) _ h).op hm none (K := K)) hn
  | fieldAddr t x f =>
    simp only [opA, hop] at h
    simp only [hop, isNew, Bool.false_eq_true, if_false, if_true] at hn
    exact wp_of_op (by simp only [execOp, hop, run_v]) ((fieldAddrA_ok (ev_ok hρ x) _ h).op hm none (K := K)) hn
  | field t x f =>
    simp only [opA, hop] at h
    simp only [hop, isNew, Bool.false_eq_true, if_false, if_true] at hn
    exact wp_of_op (by simp only [execOp, hop, run_v]) ((fieldA_ok (ev_ok hρ x) _ h).op hm none (K := K)) hn
  | indexAddr t x ix =>
    simp only [opA, hop] at h
    simp only [hop, isNew, Bool.false_eq_true, if_false, if_true] at hn
    exact wp_of_op (by simp only [execOp, hop, run_v]) ((indexAddrA_ok hm (ev_ok hρ x) (ev_ok hρ ix) _ h).op hm none (K := K)) hn
  | index t x ix =>
    simp only [opA, hop] at h
    simp only [hop, isNew, Bool.false_eq_true, if_false, if_true] at hn
    exact wp_of_op (by simp only [execOp, hop, run_v]) ((indexA_ok (ev_ok hρ x) (ev_ok hρ ix) _ h).op hm none (K := K)) hn
  | range t x =>
    simp only [opA, hop] at h
    simp only [hop, isNew, Bool.false_eq_true, if_false, if_true] at hn
    exact wp_of_op (by simp only [execOp, hop, run_v]) (rangeA_ok hm hid hW (ev_ok hρ x) K h) hn
  | next x s =>
    simp only [opA, hop] at h
    simp only [hop, isNew, Bool.false_eq_true, if_false, if_true] at hn
    exact wp_of_op (by simp only [execOp, hop, run_v]) (nextA_ok hm none o.type (ev_ok hρ x) K h) hn
  | extract x i =>
    simp only [opA, hop] at h
    simp only [hop, isNew, Bool.false_eq_true, if_false, if_true] at hn
    exact wp_of_op (by simp only [execOp, hop, run_v]) ((extractA_ok (ev_ok hρ x) _ h).op hm none (K := K)) hn
  | call c =>
    simp only [opA, hop] at h
    rw [hop] at hn
    split at h
    · rename_i f hc
      rw [show isNew (.call c) = false by simp only [isNew, hc]] at hn
      unfold callA at h
      split at h <;> try (exact h.elim)
      rename_i fn hfn
      have hb := (chk_elim h).1
      replace h := (chk_elim h).2
      have hname := (chk_elim h).1
      replace h := (chk_elim h).2
      have hrun : (execOp a.eval o).run P w = .ok (.enter f (c.args.map a.eval)) w := by
        have hbn : ¬ fn.body = none := by rw [Option.isSome_iff_exists] at hb; obtain ⟨b, hb⟩ := hb; simp [hb]
        have hnm : ¬ fn.name = "runtime.NumGoroutine" := by simpa using hname
        simp [execOp, hop, resolve, hc, Act.eval, Deferred.ofValue, invoke, callFunc, hfn, hnm, hbn]
      unfold Oper.wp
      rw [hrun]
      have hrel : ∀ (i : Nat) (t : T) (v : Value), (c.args.toList.map (ev ρ))[i]? = some t → (c.args.map a.eval).toList[i]? = some v → VRel X pl w t v := evs_ok hρ c.args
      obtain ⟨ts', ⟨r, hF, hK⟩, hlen', hrel'⟩ := lendL_ok hm _ _ _ (by simp) hrel h
      obtain ⟨hlink, hK⟩ := chk_elim hK
      have hK := forceT_K hK
      cases hno : nolink r with
      | true =>
        have hargs := hF (Xold w) w (c.args.map a.eval).toList (fun b off hx => hx) (hm.glob.mono (to_old hm)) hlen' hrel'
        rw [Array.toArray_toList] at hargs
        refine hargs.mono ?_
        rintro e w' ⟨v, X', rfl, hx, he, hX, hv⟩
        refine hn _ _ _ _ hK (call_step (id := none) (X' := X) hm hW ?_ he (fun b off hx => ⟨Nat.lt_of_lt_of_le (hm.xin b off hx).1 he.size, .inl hx⟩) (nolink_any hno hv))
        intro b off hb
        refine ⟨hb, ?_⟩
        exact (hx b off (hm.xin b off hb).1).2
      | false =>
        rw [hno, Bool.or_false] at hlink
        obtain ⟨r2, hF2, hK2⟩ := lendL_bv _ _ hlink h
        obtain ⟨_, hK2⟩ := chk_elim hK2
        have hK2 := forceT_K hK2
        have hargs := hF2 X w (c.args.map a.eval).toList (fun b off hx => (hm.xin b off hx).1) hm.glob (by simp) (by
          intro i t v ht hv
          simp only [List.getElem?_map] at ht
          cases e : c.args.toList[i]? with
          | none => simp [e] at ht
          | some x =>
            simp [e] at ht hv
            subst ht hv
            exact bv_none (ev_ok hρ x) (bvL_get hlink i _ (by simp [e])))
        rw [Array.toArray_toList] at hargs
        refine hargs.mono ?_
        rintro e w' ⟨v, X', rfl, hx, he, hX, hv⟩
        exact hn _ _ _ _ hK2 (call_step (id := none) hm hW hx he hX hv)
    · rename_i hc
      rw [show isNew (.call c) = false by simp only [isNew, hc]] at hn
      split at h <;> try (exact h.elim)
      rename_i x t ts harg htys
      have he := execOp_builtin (P := P) (w := w) (a := a) c _ hc hop
      have e1 : c.args.map a.eval = #[a.eval x] := by apply Array.ext'; simp [harg]
      have e2 : c.argTypes[0]? = some t := by rw [← Array.getElem?_toList, htys]; rfl
      refine wp_of_op (f := Builtin.len_ c.argTypes o.type #[a.eval x]) (by rw [he, e1]; simp only [builtin, run_v]) ((lenA_ok c.argTypes o.type e2 (ev_ok hρ x) _ h).op hm none (K := K)) hn
    · rename_i hc
      rw [show isNew (.call c) = true by simp only [isNew, hc]] at hn
      split at h <;> try (exact h.elim)
      rename_i x y tx ty harg htys
      have he := execOp_builtin (P := P) (w := w) (a := a) c _ hc hop
      have e1 : c.args.map a.eval = #[a.eval x, a.eval y] := by apply Array.ext'; simp [harg]
      have e2 : c.argTypes = #[tx, ty] := by apply Array.ext'; simp [htys]
      exact wp_of_op (f := Builtin.append_ #[tx, ty] o.type #[a.eval x, a.eval y]) (by rw [he, e1, e2]; simp only [builtin, run_v]) (appendA_ok hm hid hW _ o.type (ev_ok hρ x) (ev_ok hρ y) K h) hn
    · rename_i hc
      rw [show isNew (.call c) = false by simp only [isNew, hc]] at hn
      split at h <;> try (exact h.elim)
      rename_i x y tx ty harg htys
      have he := execOp_builtin (P := P) (w := w) (a := a) c _ hc hop
      have e1 : c.args.map a.eval = #[a.eval x, a.eval y] := by apply Array.ext'; simp [harg]
      have e2 : c.argTypes = #[tx, ty] := by apply Array.ext'; simp [htys]
      exact wp_of_op (f := Builtin.copy_ #[tx, ty] o.type #[a.eval x, a.eval y]) (by rw [he, e1, e2]; simp only [builtin, run_v]) (copyA_ok hm o.type (ev_ok hρ x) (ev_ok hρ y) K h) hn
    · rename_i hc
      rw [show isNew (.call c) = false by simp only [isNew, hc]] at hn
      have he := execOp_builtin (P := P) (w := w) (a := a) c _ hc hop
      have := (mmA_ok (P := P) (X := X) (pl := pl) (w := w) true c.argTypes o.type _ (c.args.map a.eval).toList (by simp) (evs_ok hρ c.args) _ h).op hm none (K := K)
      simp only [Array.toArray_toList] at this
      exact wp_of_op (by rw [he]; simp only [builtin, run_v]) this hn
    · rename_i hc
      rw [show isNew (.call c) = false by simp only [isNew, hc]] at hn
      have he := execOp_builtin (P := P) (w := w) (a := a) c _ hc hop
      have := (mmA_ok (P := P) (X := X) (pl := pl) (w := w) false c.argTypes o.type _ (c.args.map a.eval).toList (by simp) (evs_ok hρ c.args) _ h).op hm none (K := K)
      simp only [Array.toArray_toList] at this
      exact wp_of_op (by rw [he]; simp only [builtin, run_v]) this hn
    · exact h.elim
  | _ => simp only [opA, hop] at h
end op

end
end Go.AW
