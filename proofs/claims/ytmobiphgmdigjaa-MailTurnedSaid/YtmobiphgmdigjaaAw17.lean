import Derived.Test.YtmobiphgmdigjaaAw16
/- Soundness: every operation. -/
set_option linter.unusedVariables false
set_option linter.unusedSimpArgs false
namespace Go.AW
open Go

section
variable {P : Program} {X X' : Xs} {W : Nat → Prop} {pl : Pl} {w w' : World} {m : Mem}

theorem bv_none {t : T} {v : Value} (h : VRel X pl w t v) (hb : bvA t = true) : VRel X (fun _ => none) w (untokA t) v := by
  by_cases hx : ∃ ts, t = .agg ts
  · obtain ⟨ts, rfl⟩ := hx
    obtain ⟨vs, rfl, hl, hh⟩ := h.agg_inv
    simp only [bvA] at hb
    refine .agg _ vs (by simpa using hl) ?_
    intro i x v hx hv
    simp only [List.getElem?_map] at hx
    cases e : ts[i]? with
    | none => simp [e] at hx
    | some y =>
      simp [e] at hx
      subst hx
      have hy := List.all_eq_true.1 hb y (List.mem_of_getElem? e)
      have h1 := (hh i y v e hv).bv hy
      have h2 := h1.vrel (pl := fun _ => none)
      cases y <;> first | (simp [bvOk] at hy; done) | exact h2
  · have hbb : bvOk t = true := by cases t <;> first | exact hb | (exfalso; exact hx ⟨_, rfl⟩)
    have h1 := (h.bv hbb).vrel (pl := fun _ => none)
    cases t <;> first | (simp [bvOk] at hbb; done) | exact h1

theorem bvL_get {ts : List T} (h : bvL ts = true) : ∀ (i : Nat) (t : T), ts[i]? = some t → bvA t = true := by
  induction ts with
  | nil => simp
  | cons x r ih =>
    simp only [bvL, Bool.and_eq_true] at h
    intro i t ht
    cases i with
    | zero => simp at ht; subst ht; exact h.1
    | succ i => exact ih h.2 i t (by simpa using ht)

theorem none_any {t : T} {v : Value} (h : VRel X (fun _ => none) w t v) : VRel X pl w t v :=
  h.mono (.refl _ _) (fun id l hl => by cases hl)

theorem forceT_K {t : T} {K : T → Prop} (h : forceT t K) : K t := by rwa [forceT_eq] at h

/-- What a call of data leaves its caller. -/
theorem call_step (hm : MRel X W pl w m) (hW : ∀ b, w.heap.size ≤ b → W b) {o : T} {v : Value} {id : Option Nat}
    (hx : XMono X X' w w') (he : Ext (fun b => w.heap.size ≤ b) w w') (hX : ∀ b off, X' b off → b < w'.heap.size ∧ (X b off ∨ w.heap.size ≤ b)) (hv : VRel X' (fun _ => none) w' o v) :
    StepOk X W pl w id m o v w' := by
  have hk : ∀ b, b < w.heap.size → w'.heap[b]? = w.heap[b]? := fun b hb => he.keep b hb (by omega)
  have hp : PMono pl pl w w' := by
    intro i li hi
    refine ⟨⟨li, hi, li.le_refl⟩, ?_⟩
    rintro b sz rfl _ n hr
    exact roomy_of_heap (hk b (hm.placed i _ b hi rfl).2) hr
  refine ⟨X', pl, hx, hp, fun _ _ h => h, he.weaken fun b _ h => hW b h, ?_, none_any hv, fun b off h => (hX b off h).2.imp (fun h => h) (hW b)⟩
  constructor
  · intro i blk hi
    obtain ⟨l, hl, hb⟩ := hm.blk i blk hi
    exact ⟨l, hl, hb.mono hx hp fun b hbb => hk b (hm.placed i l b hl hbb).2⟩
  · intro i l b hi hb
    obtain ⟨h1, h2⟩ := hm.placed i l b hi hb
    exact ⟨h1, Nat.lt_of_lt_of_le h2 he.size⟩
  · exact hm.apart
  · intro b off h
    refine ⟨(hX b off h).1, fun i l hi => ?_⟩
    rcases (hX b off h).2 with h2 | h2
    · exact (hm.xin b off h2).2 i l hi
    · exact free_of_new (fun b' hb' => (hm.placed i l b' hi hb').2) h2
  · exact hm.glob.mono hx

/-- All that lies there now. -/
def Xold (w : World) : Xs := fun b _ => b < w.heap.size

theorem to_old (hm : MRel X W pl w m) : XMono X (Xold w) w w := fun b off h => ⟨(hm.xin b off h).1, rfl⟩

theorem bvN_brel {t : T} {v : Value} (hb : bvN t = true) (h : VRel X pl w t v) : BRel X w t v ∧ v.oneCell' = true := by
  cases h with
  | lit v => exact ⟨.lit v, hb⟩
  | sl tok sz rows v h ht =>
    refine ⟨h, ?_⟩
    generalize hu : (T.sl tok sz rows) = u at h
    cases h <;> first | rfl | cases hu
  | ifc t x v h => exact ⟨.ifc t x v h, rfl⟩
  | _ => simp [bvN] at hb

theorem lend_ok2 {X2 : Xs} (old : XMono X X2 w w) (hm : MRel X W pl w m) {t : T} (hp2 : ∀ id ∈ idsT t, ∀ l b off, pl id = some l → l.blk = some b → X2 b off) {v : Value} (hv : VRel X pl w t v) {K : T → Prop} (h : lend m t K) : ∃ t', K t' ∧ VRel X2 (fun _ => none) w t' v := by
  unfold lend at h
  split at h
  · rename_i id lo len
    split at h <;> try (exact h.elim)
    rename_i sz rows hg
    obtain ⟨⟨hle, hbv⟩, hK⟩ := h
    refine ⟨_, hK, .sl none _ _ _ ?_ (by simp)⟩
    have hlen : ((rows.drop lo).take len).length = len := by simp; omega
    obtain ⟨l, hl, hb⟩ := hm.blk id _ hg
    have zero : ∀ (a : Option Addr) (cap : Nat), len = 0 → BRel (X2) w (.sl none sz ((rows.drop lo).take len)) (.slice a 0 cap) := by
      intro a cap h0
      have : (rows.drop lo).take len = [] := by rw [h0]; rfl
      rw [this]
      exact .sl none sz [] a cap (fun _ _ => undef) (Nat.zero_le _) (by simp) (by simp) (by simp)
    cases hv with
    | srefn _ hp => exact zero _ _ rfl
    | srefz _ _ b sz' a hp => exact zero _ _ rfl
    | sref _ _ _ b sz' cap hp hcap hroom =>
      replace hp := own_pl hm hg hp
      rw [hl] at hp
      cases hp
      rcases hb with ⟨h1, _⟩ | ⟨b2, e, cs, el, fr, h1, h2, h3, h4⟩
      · cases h1
      · cases e
        have key := BRel.sl (X := X2) (w := w) none sz ((rows.drop lo).take len) (some ⟨b, lo * sz, none⟩) cap (fun i j => cs.getD ((lo + i) * sz + j) undef)
          (by rw [hlen]; exact hcap) ?_ ?_ ?_
        · rw [hlen] at key; exact key
        · intro i row hr
          have hr' : rows[lo + i]? = some row := by
            rw [List.getElem?_take] at hr
            split at hr
            · rwa [List.getElem?_drop] at hr
            · cases hr
          exact (h4 _ row hr').1
        · intro i row hr
          have hmem := List.mem_of_getElem? hr
          have hr' : rows[lo + i]? = some row := by
            rw [List.getElem?_take] at hr
            split at hr
            · rwa [List.getElem?_drop] at hr
            · cases hr
          refine ⟨b, lo * sz, rfl, fun j hj => ?_⟩
          obtain ⟨hsz, hc⟩ := h4 _ row hr'
          obtain ⟨t, ht⟩ : ∃ t, row[j]? = some t := ⟨row[j]'(by omega), List.getElem?_eq_getElem _⟩
          obtain ⟨v, hv1, hv2⟩ := hc j t ht
          have e1 : cs.getD ((lo + i) * sz + j) undef = v := by simp [Array.getD_eq_getD_getElem?, hv1]
          have e2 : lo * sz + i * sz + j = (lo + i) * sz + j := by rw [Nat.add_mul]
          refine ⟨hp2 id (by simp [idsT]) _ b _ hl rfl, ?_, ?_⟩
          · rw [e1, e2]
            simp only [World.cell?, h1]
            exact hv1
          · rw [e1]; exact (bvN_brel (hbv row hmem t (List.mem_of_getElem? ht)) hv2).2
        · intro i row j t hr ht
          have hmem := List.mem_of_getElem? hr
          have hr' : rows[lo + i]? = some row := by
            rw [List.getElem?_take] at hr
            split at hr
            · rwa [List.getElem?_drop] at hr
            · cases hr
          obtain ⟨v, hv1, hv2⟩ := (h4 _ row hr').2 j t ht
          have e1 : cs.getD ((lo + i) * sz + j) undef = v := by simp [Array.getD_eq_getD_getElem?, hv1]
          rw [e1]
          exact (bvN_brel (hbv row hmem t (List.mem_of_getElem? ht)) hv2).1.mono old
  · rename_i id row off
    split at h <;> try (exact h.elim)
    rename_i sz rows hg
    obtain ⟨r, hr, hbv, hK⟩ := nthK_elim h
    refine ⟨_, hK, ?_⟩
    obtain ⟨l, hl, hb⟩ := hm.blk id _ hg
    cases hv with
    | ptr _ _ _ b sz' hp =>
      replace hp := own_pl hm hg hp
      rw [hl] at hp
      cases hp
      rcases hb with ⟨h1, _⟩ | ⟨b2, e, cs, el, fr, h1, h2, h3, h4⟩
      · cases h1
      · cases e
        refine .vp r off b (row * sz) (fun j => cs.getD (row * sz + j) undef) ?_
        intro j t ht
        obtain ⟨v, hv1, hv2⟩ := (h4 _ r hr).2 j t ht
        have e1 : cs.getD (row * sz + j) undef = v := by simp [Array.getD_eq_getD_getElem?, hv1]
        refine ⟨hp2 id (by simp [idsT]) _ b _ hl rfl, ?_, ?_⟩
        · rw [e1]; simp only [World.cell?, h1]; exact hv1
        · rw [e1]; exact (bvN_brel (hbv t (List.mem_of_getElem? ht)) hv2).1.mono old
  · rename_i r off
    refine ⟨_, h.2, ?_⟩
    cases hv with
    | vp _ _ b o cs hh => exact .vp r off b o cs fun j t ht => ⟨((old _ _ (hh j t ht).1)).1, (hh j t ht).2.1, (hh j t ht).2.2.mono old⟩
  · rename_i f
    refine ⟨_, h, ?_⟩
    cases hv with
    | clo _ ts vs hl hh => exact .clo f [] vs hl (fun i t v ht _ => by simp at ht)
  · obtain ⟨hb, hK⟩ := chk_elim h
    rw [forceT_eq] at hK
    exact ⟨_, hK, (bv_none hv hb).mono old (.refl _ _)⟩

theorem lend_ok (hm : MRel X W pl w m) {t : T} {v : Value} (hv : VRel X pl w t v) {K : T → Prop} (h : lend m t K) : ∃ t', K t' ∧ VRel (Xold w) (fun _ => none) w t' v :=
  lend_ok2 (to_old hm) hm (fun id _ l b off hl hb => (hm.placed id l b hl hb).2) hv h

theorem lendL_ok (hm : MRel X W pl w m) : ∀ (ts : List T) (vs : List Value) (K : List T → Prop), ts.length = vs.length → (∀ (i : Nat) (t : T) (v : Value), ts[i]? = some t → vs[i]? = some v → VRel X pl w t v) → lendL m ts K →
    ∃ ts', K ts' ∧ ts'.length = vs.length ∧ ∀ (i : Nat) (t : T) (v : Value), ts'[i]? = some t → vs[i]? = some v → VRel (Xold w) (fun _ => none) w t v
  | [], [], K, hl, hh, h => ⟨[], h, rfl, by simp⟩
  | t :: r, v :: vs, K, hl, hh, h => by
    obtain ⟨t', h1, hv'⟩ := lend_ok hm (hh 0 t v rfl rfl) h
    obtain ⟨r', hK, hl', hh'⟩ := lendL_ok hm r vs _ (by simpa using hl) (fun i t v ht hv => hh (i + 1) t v (by simpa using ht) (by simpa using hv)) h1
    refine ⟨_, hK, by simp [hl'], ?_⟩
    intro i t2 v2 ht hv
    cases i with
    | zero => simp at ht hv; subst ht hv; exact hv'
    | succ i => exact hh' i t2 v2 (by simpa using ht) (by simpa using hv)
  | [], _ :: _, K, hl, hh, h => by simp at hl
  | _ :: _, [], K, hl, hh, h => by simp at hl

theorem lendL_bv : ∀ (ts : List T) (K : List T → Prop), bvL ts = true → lendL m ts K → K (ts.map untokA)
  | [], K, _, h => h
  | t :: r, K, hb, h => by
    simp only [bvL, Bool.and_eq_true] at hb
    have h1 : lendL m r fun r' => K (untokA t :: r') := by
      unfold lendL lend at h
      split at h
      · simp [bvA, bvOk] at hb
      · simp [bvA, bvOk] at hb
      · simp [bvA, bvOk] at hb
      · simp [bvA, bvOk] at hb
      · have := (chk_elim h).2; rwa [forceT_eq] at this
    exact lendL_bv r _ hb.2 h1

theorem nolink_any {o : T} (h : nolink o = true) {X' : Xs} {pl' : Pl} {v : Value} (hv : VRel X pl w o v) : VRel X' pl' w o v := by
  cases o with
  | lit u => obtain rfl := hv.lit_inv; exact .lit _
  | agg cs =>
    obtain ⟨vs, rfl, hl, hh⟩ := hv.agg_inv
    refine .agg cs vs hl fun i t v ht hv => ?_
    have := List.all_eq_true.1 h t (List.mem_of_getElem? ht)
    cases t <;> first | (simp at this; done) | skip
    have h2 := hh i _ v ht hv
    obtain rfl := h2.lit_inv
    exact .lit _
  | tup cs =>
    cases hv with
    | tup _ vs hl hh =>
      refine .tup cs vs hl fun i t v ht hv => ?_
      have := List.all_eq_true.1 h t (List.mem_of_getElem? ht)
      cases t <;> first | (simp at this; done) | skip
      have h2 := hh i _ v ht hv
      obtain rfl := h2.lit_inv
      exact .lit _
  | _ => simp [nolink] at h

theorem partsOf_ok {ρ : List (Nat × T)} {a : Act} (h : EnvOk X pl w ρ a) (ps : Array (Nat × Operand)) :
    PartsOk X pl w (partsOf ρ ps) (ps.map fun (i, x) => (i, a.eval x)).toList := by
  refine ⟨by simp [partsOf], ?_⟩
  intro i j j' x v hx hv
  simp only [partsOf, List.getElem?_map] at hx
  simp only [Array.toList_map, List.getElem?_map] at hv
  cases e : ps.toList[i]? with
  | none => simp [e] at hx
  | some p =>
    obtain ⟨k, q⟩ := p
    simp [e] at hx hv
    obtain ⟨rfl, rfl⟩ := hx
    obtain ⟨rfl, rfl⟩ := hv
    exact ⟨rfl, ev_ok h q⟩

theorem evs_ok {ρ : List (Nat × T)} {a : Act} (h : EnvOk X pl w ρ a) (args : Array Operand) :
    ∀ (i : Nat) (t : T) (v : Value), (args.toList.map (ev ρ))[i]? = some t → ((args.map a.eval).toList)[i]? = some v → VRel X pl w t v := by
  intro i t v ht hv
  simp only [Array.toList_map, List.getElem?_map] at ht hv
  cases e : args.toList[i]? with
  | none => simp [e] at ht
  | some x => simp [e] at ht hv; subst ht hv; exact ev_ok h x

theorem bound_ok {ρ : List (Nat × T)} {a : Act} (h : EnvOk X pl w ρ a) (o : Option Operand) : BoundOk X pl w (o.map (ev ρ)) (o.map a.eval) := by
  cases o with
  | none => exact .inl ⟨rfl, rfl⟩
  | some x => exact .inr ⟨_, _, rfl, rfl, ev_ok h x⟩

theorem ptr_val {i r o : Nat} {v : Value} (h : VRel X pl w (.ptr i r o) v) : ∃ ad, v = .pointer (some ad) := by cases h; exact ⟨_, rfl⟩
theorem vp_val {r : List T} {o : Nat} {v : Value} (h : VRel X pl w (.vp r o) v) : ∃ ad, v = .pointer (some ad) := by cases h; exact ⟨_, rfl⟩

section op
variable {o : Oper} {a : Act} {next : Act → World → Prop} {Q : Exit → Act → World → Prop} {K : T → Mem → Prop} {id : Nat}

theorem wp_of_op {id : Option Nat} {f : Sem Value} (hf : (execOp a.eval o).run P w = (f.run P w).andThen fun v w' => .ok (.value v) w') (h : OpOk P X W pl w id f K)
    (hn : ∀ v t m' w', K t m' → StepOk X W pl w id m' t v w' → next (a.put o.dst v) w') : o.wp P a w next Q := by
  obtain ⟨v, t, m', w', hr, hK, hs⟩ := h
  unfold Oper.wp
  rw [hf, hr]
  exact hn v t m' w' hK hs

theorem run_v (f : Sem Value) : (do pure (Next.value (← f)) : Sem Next).run P w = (f.run P w).andThen fun v w' => .ok (.value v) w' := by
  simp only [Sem.run_bind, Sem.run_pure]

theorem execOp_builtin (c : Call) (b : Builtin) (hc : c.callee = .builtin b) (ho : o.op = .call c) :
    (execOp a.eval o).run P w = (builtin b c.argTypes o.type (c.args.map fun | .const _ => true | _ => false) (c.args.map a.eval)).run P w := by
  unfold execOp
  simp only [ho, resolve, hc, Sem.run_bind, Sem.run_pure, Result.andThen_ok, invoke]
  rfl

theorem clo_inv {f : FuncId} {caps : List T} {v : Value} (h : VRel X pl w (.clo f caps) v) : ∃ vs : List Value, v = .func (.func f) #[] vs.toArray ∧ caps.length = vs.length ∧ ∀ (i : Nat) (t : T) (v : Value), caps[i]? = some t → vs[i]? = some v → VRel X pl w t v := by
  cases h with
  | clo f ts vs hl hh => exact ⟨vs, rfl, hl, hh⟩
theorem app_rel {ta tc : List T} {us vs : List Value} (hl : ta.length = us.length) (h1 : ∀ (i : Nat) (t : T) (v : Value), ta[i]? = some t → us[i]? = some v → VRel X pl w t v)
    (h2 : ∀ (i : Nat) (t : T) (v : Value), tc[i]? = some t → vs[i]? = some v → VRel X pl w t v) : ∀ (i : Nat) (t : T) (v : Value), (ta ++ tc)[i]? = some t → (us ++ vs)[i]? = some v → VRel X pl w t v := by
  intro i t v ht hv
  by_cases hi : i < ta.length
  · rw [List.getElem?_append_left hi] at ht
    rw [List.getElem?_append_left (by omega)] at hv
    exact h1 i t v ht hv
  · rw [List.getElem?_append_right (by omega)] at ht
    rw [List.getElem?_append_right (by omega)] at hv
    rw [← hl] at hv
    exact h2 _ t v ht hv
theorem callA_ok {f : FuncId} {ts : List T} {vs : List Value} {c : Call} (hop : o.op = .call c)
    (hrun : ∀ fn, P.funcs[f]? = some fn → ¬ fn.body = none → ¬ fn.name = "runtime.NumGoroutine" → (execOp a.eval o).run P w = .ok (.enter f vs.toArray) w)
    (hm : MRel X W pl w m) (hW : ∀ b, w.heap.size ≤ b → W b) (hlen0 : ts.length = vs.length) (hrel : ∀ (i : Nat) (t : T) (v : Value), ts[i]? = some t → vs[i]? = some v → VRel X pl w t v)
    (h : callA P m f ts (fun v => K v m)) (hn : ∀ v t m' w', K t m' → StepOk X W pl w none m' t v w' → next (a.put o.dst v) w') : o.wp P a w next Q := by
  unfold callA at h
  split at h <;> try (exact h.elim)
  rename_i fn hfn
  have hb := (chk_elim h).1
  replace h := (chk_elim h).2
  have hname := (chk_elim h).1
  replace h := (chk_elim h).2
  have hbn : ¬ fn.body = none := by rw [Option.isSome_iff_exists] at hb; obtain ⟨b, hb⟩ := hb; simp [hb]
  have hnm : ¬ fn.name = "runtime.NumGoroutine" := by simpa using hname
  have hrun := hrun fn hfn hbn hnm
  unfold Oper.wp
  rw [hrun]
  obtain ⟨ts', ⟨r, hF, hK⟩, hlen', hrel'⟩ := lendL_ok hm _ _ _ hlen0 hrel h
  obtain ⟨hlink, hK⟩ := chk_elim hK
  have hK := forceT_K hK
  cases hno : nolink r with
  | true =>
    have hargs := hF (Xold w) w vs (fun b off hx => hx) (hm.glob.mono (to_old hm)) hlen' hrel'
    refine hargs.mono ?_
    rintro e w' ⟨v, X', rfl, hx, he, hX, hv⟩
    refine hn _ _ _ _ hK (call_step (id := none) (X' := X) hm hW ?_ he (fun b off hx => ⟨Nat.lt_of_lt_of_le (hm.xin b off hx).1 he.size, .inl hx⟩) (nolink_any hno hv))
    intro b off hb
    refine ⟨hb, ?_⟩
    exact (hx b off (hm.xin b off hb).1).2
  | false =>
    rw [hno, Bool.or_false] at hlink
    obtain ⟨r2, hF2, hK2⟩ := lendL_bv _ _ hlink h
    obtain ⟨_, hK2⟩ := chk_elim hK2
    have hK2 := forceT_K hK2
    have hargs := hF2 X w vs (fun b off hx => (hm.xin b off hx).1) hm.glob (by simpa using hlen0) (by
      intro i t v ht hv
      simp only [List.getElem?_map] at ht
      cases e : ts[i]? with
      | none => simp [e] at ht
      | some x =>
        simp [e] at ht
        subst ht
        exact bv_none (hrel i x v e hv) (bvL_get hlink i _ e))
    refine hargs.mono ?_
    rintro e w' ⟨v, X', rfl, hx, he, hX, hv⟩
    exact hn _ _ _ _ hK2 (call_step (id := none) hm hW hx he hX hv)

theorem opA_ok {ρ : List (Nat × T)} {rl : List Nat} (h : opA P ρ m rl id o K) (hρ : EnvOk X pl w ρ a) (hm : MRel X W pl w m) (hid : pl id = none) (hW : ∀ b, w.heap.size ≤ b → W b)
    (hn : ∀ v t m' w', K t m' → StepOk X W pl w (if isNew o.op then some id else none) m' t v w' → next (a.put o.dst v) w') : o.wp P a w next Q := by
  have mv : ∀ x : Operand, forceT (ev ρ x) (fun v => K v m) → (execOp a.eval o).run P w = .ok (.value (a.eval x)) w → o.wp P a w next Q := by
    intro x hK hr
    unfold Oper.wp
    rw [hr]
    exact hn _ _ _ _ (forceT_K hK) (.same hm _ (ev_ok hρ x))
  cases hop : o.op with
  | move x => simp only [opA, hop] at h; exact mv x h (by simp only [execOp, hop, Sem.run_pure])
  | assign x => simp only [opA, hop] at h; exact mv x h (by simp only [execOp, hop, Sem.run_pure])
  | pick c x y =>
    simp only [opA, hop] at h
    simp only [hop, isNew, Bool.false_eq_true, if_false, if_true] at hn
    have hc := ev_ok hρ c
    unfold pickA at h
    split at h <;> try (exact h.elim)
    rename_i b hcb
    rw [hcb] at hc
    have hcv := hc.lit_inv
    cases b with
    | true => exact mv x (by simpa [br] using h) (by simp [execOp, hop, hcv, asBool])
    | false => exact mv y (by simpa [br] using h) (by simp [execOp, hop, hcv, asBool])
  | alloc t =>
    simp only [opA, hop] at h
    simp only [hop, isNew, Bool.false_eq_true, if_false, if_true] at hn
    exact wp_of_op (by simp only [execOp, hop, run_v]) (allocA_ok hm hid hW K h) hn
  | box t x =>
    simp only [opA, hop] at h
    simp only [hop, isNew, Bool.false_eq_true, if_false, if_true] at hn
    exact wp_of_op (by simp only [execOp, hop, run_v]) (boxA_ok hm hid hW (ev_ok hρ x) K h) hn
  | build t ps =>
    simp only [opA, hop] at h
    simp only [hop, isNew, Bool.false_eq_true, if_false, if_true] at hn
    have := (buildA_ok (partsOf_ok hρ ps) _ h).op hm none (K := K)
    simp only [Array.toArray_toList] at this
    exact wp_of_op (by simp only [execOp, hop, run_v]) this hn
  | buildSlice t n ps =>
    simp only [opA, hop] at h
    simp only [hop, isNew, Bool.false_eq_true, if_false, if_true] at hn
    have := buildSliceA_ok hm hid hW _ (partsOf_ok hρ ps) K h
    simp only [Array.toArray_toList] at this
    exact wp_of_op (by simp only [execOp, hop, run_v]) this hn
  | load t x =>
    simp only [opA, hop] at h
    simp only [hop, isNew, Bool.false_eq_true, if_false, if_true] at hn
    exact wp_of_op (by simp only [execOp, hop, run_v]) ((loadA_ok hm (ev_ok hρ x) _ h).op hm none (K := K)) hn
  | store t x y =>
    simp only [opA, hop] at h
    simp only [hop, isNew, Bool.false_eq_true, if_false, if_true] at hn
    rw [forceT_eq] at h
    obtain ⟨m', w', hr, hK, hs⟩ := storeA_ok hm none (ev_ok hρ x) (ev_ok hρ y) _ h
    unfold Oper.wp
    have : (execOp a.eval o).run P w = .ok .skip w' := by simp only [execOp, hop, Sem.run_bind, hr, Result.andThen_ok, Sem.run_pure]
    rw [this]
    exact hn _ _ _ _ hK hs
  | nilCheck x =>
    simp only [opA, hop] at h
    simp only [hop, isNew, Bool.false_eq_true, if_false, if_true] at hn
    have hx := ev_ok hρ x
    have hp : (∃ ad, a.eval x = .pointer (some ad)) ∧ K (ev ρ x) m := by
      split at h
      · rename_i e
        rw [e] at hx ⊢
        exact ⟨ptr_val hx, h⟩
      · rename_i e
        rw [e] at hx ⊢
        exact ⟨vp_val hx, h⟩
      · exact h.elim
    obtain ⟨⟨ad, hv⟩, hK⟩ := hp
    refine mv x (by rw [forceT_eq]; exact hK) ?_
    unfold execOp
    simp only [hop, hv, Sem.run_pure]
  | binOp op ty x y yt =>
    simp only [opA, hop] at h
    simp only [hop, isNew, Bool.false_eq_true, if_false, if_true] at hn
    exact wp_of_op (by simp only [execOp, hop, run_v]) ((binA_ok op ty x y _ _ _ _ (ev_ok hρ x) (ev_ok hρ y) _ h).op hm none (K := K)) hn
  | unOp op ty x =>
    simp only [opA, hop] at h
    simp only [hop, isNew, Bool.false_eq_true, if_false, if_true] at hn
    exact wp_of_op (by simp only [execOp, hop, run_v]) ((unA_ok op _ _ (ev_ok hρ x) _ h).op hm none (K := K)) hn
  | convert s d x =>
    simp only [opA, hop] at h
    simp only [hop, isNew, Bool.false_eq_true, if_false, if_true] at hn
    exact wp_of_op (by simp only [execOp, hop, run_v]) (convertA_ok hm hid hW _ (ev_ok hρ x) K h) hn
  | makeSlice t l c =>
    simp only [opA, hop] at h
    simp only [hop, isNew, Bool.false_eq_true, if_false, if_true] at hn
    exact wp_of_op (by simp only [execOp, hop, run_v]) (makeSliceA_ok hm hid hW _ (ev_ok hρ l) (ev_ok hρ c) K h) hn
  | slice t x lo hi mx =>
    simp only [opA, hop] at h
    simp only [hop, isNew, Bool.false_eq_true, if_false, if_true] at hn
    exact wp_of_op (by simp only [execOp, hop, run_v]) ((sliceA_ok hm (ev_ok hρ x) (bound_ok hρ lo) (bound_ok hρ hi) (bound_ok hρ mx) _ h).op hm none (K := K)) hn
  | fieldAddr t x f =>
    simp only [opA, hop] at h
    simp only [hop, isNew, Bool.false_eq_true, if_false, if_true] at hn
    exact wp_of_op (by simp only [execOp, hop, run_v]) ((fieldAddrA_ok (ev_ok hρ x) _ h).op hm none (K := K)) hn
  | field t x f =>
    simp only [opA, hop] at h
    simp only [hop, isNew, Bool.false_eq_true, if_false, if_true] at hn
    exact wp_of_op (by simp only [execOp, hop, run_v]) ((fieldA_ok (ev_ok hρ x) _ h).op hm none (K := K)) hn
  | indexAddr t x ix =>
    simp only [opA, hop] at h
    simp only [hop, isNew, Bool.false_eq_true, if_false, if_true] at hn
    exact wp_of_op (by simp only [execOp, hop, run_v]) ((indexAddrA_ok hm (ev_ok hρ x) (ev_ok hρ ix) _ h).op hm none (K := K)) hn
  | index t x ix =>
    simp only [opA, hop] at h
    simp only [hop, isNew, Bool.false_eq_true, if_false, if_true] at hn
    exact wp_of_op (by simp only [execOp, hop, run_v]) ((indexA_ok (ev_ok hρ x) (ev_ok hρ ix) _ h).op hm none (K := K)) hn
  | range t x =>
    simp only [opA, hop] at h
    simp only [hop, isNew, Bool.false_eq_true, if_false, if_true] at hn
    exact wp_of_op (by simp only [execOp, hop, run_v]) (rangeA_ok hm hid hW (ev_ok hρ x) K h) hn
  | next x s =>
    simp only [opA, hop] at h
    simp only [hop, isNew, Bool.false_eq_true, if_false, if_true] at hn
    exact wp_of_op (by simp only [execOp, hop, run_v]) (nextA_ok hm none o.type (ev_ok hρ x) K h) hn
  | makeInterface t x =>
    simp only [opA, hop] at h
    simp only [hop, isNew, Bool.false_eq_true, if_false, if_true] at hn
    exact wp_of_op (by simp only [execOp, hop, run_v]) ((mkIfcA_ok (ev_ok hρ x) h).op hm none (K := K)) hn
  | typeAssert x xt t ok =>
    simp only [opA, hop] at h
    simp only [hop, isNew, Bool.false_eq_true, if_false, if_true] at hn
    exact wp_of_op (by simp only [execOp, hop, run_v]) ((typeAsA_ok (xt := xt) (ev_ok hρ x) h).op hm none (K := K)) hn
  | makeFunc fn first caps =>
    simp only [opA, hop] at h
    simp only [hop, isNew, Bool.false_eq_true, if_false, if_true] at hn
    have := (makeFuncA_ok (P := P) (fn := fn) (ft := first.toList.map (ev ρ)) (ct := caps.toList.map (ev ρ)) (fv := (first.map a.eval).toList) (cv := (caps.map a.eval).toList) (by simp) (by simp) (evs_ok hρ caps) h).op hm none (K := K)
    simp only [Array.toArray_toList] at this
    exact wp_of_op (by simp only [execOp, hop, run_v]) this hn
  | makeMap t r =>
    simp only [opA, hop] at h
    simp only [hop, isNew, Bool.false_eq_true, if_false, if_true] at hn
    obtain ⟨h0, h⟩ := chk_elim h
    obtain rfl : r = none := by cases r <;> simp at h0 ⊢
    exact wp_of_op (by simp only [execOp, hop, run_v, Option.map_none]) (makeMap_ok (t := t) hm hid hW h) hn
  | lookup t x ix ok =>
    simp only [opA, hop] at h
    simp only [hop, isNew, Bool.false_eq_true, if_false, if_true] at hn
    exact wp_of_op (by simp only [execOp, hop, run_v]) ((lookupA_ok hm (ev_ok hρ x) (ev_ok hρ ix) h).op hm none (K := K)) hn
  | mapUpdate t x k v =>
    simp only [opA, hop] at h
    simp only [hop, isNew, Bool.false_eq_true, if_false, if_true] at hn
    obtain ⟨m', w', hr, hK, hs⟩ := mapUpdateA_ok hm none (ev_ok hρ x) (ev_ok hρ k) (ev_ok hρ v) h
    unfold Oper.wp
    have : (execOp a.eval o).run P w = .ok .skip w' := by simp only [execOp, hop, Sem.run_bind, hr, Result.andThen_ok, Sem.run_pure]
    rw [this]
    exact hn _ _ _ _ hK hs
  | extract x i =>
    simp only [opA, hop] at h
    simp only [hop, isNew, Bool.false_eq_true, if_false, if_true] at hn
    exact wp_of_op (by simp only [execOp, hop, run_v]) ((extractA_ok (ev_ok hρ x) _ h).op hm none (K := K)) hn
  | call c =>
    simp only [opA, hop] at h
    rw [hop] at hn
    split at h
    · rename_i f hc
      rw [show isNew (.call c) = false by simp only [isNew, hc]] at hn
      exact callA_ok hop (vs := (c.args.map a.eval).toList) (fun fn hfn hb hnm => by
        rw [Array.toArray_toList]
        simp [execOp, hop, resolve, hc, Act.eval, Deferred.ofValue, invoke, callFunc, hfn, hnm, hb]) hm hW (by simp) (evs_ok hρ c.args) h hn
    · rename_i i hc
      rw [show isNew (.call c) = false by simp only [isNew, hc]] at hn
      split at h <;> try (exact h.elim)
      rename_i f caps hcl
      have hv := hρ i
      rw [hcl] at hv
      obtain ⟨vs, hfv, hl, hh⟩ := clo_inv hv
      replace h := (chk_elim h).2
      refine callA_ok hop (vs := (c.args.map a.eval).toList ++ vs) (fun fn hfn hb hnm => ?_) hm hW (by simp [hl]) (app_rel (by simp) (evs_ok hρ c.args) hh) h hn
      have e1 : (c.args.map a.eval).toList ++ vs = ((c.args.map a.eval) ++ vs.toArray).toList := by simp
      have e2 : a.eval (.tmp i) = .func (.func f) #[] vs.toArray := hfv
      rw [e1, Array.toArray_toList]
      simp [execOp, hop, resolve, hc, e2, Deferred.ofValue, invoke, callFunc, hfn, hnm, hb]
    · rename_i hc
      rw [show isNew (.call c) = false by simp only [isNew, hc]] at hn
      split at h <;> try (exact h.elim)
      rename_i x t ts harg htys
      have he := execOp_builtin (P := P) (w := w) (a := a) c _ hc hop
      have e1 : c.args.map a.eval = #[a.eval x] := by apply Array.ext'; simp [harg]
      have e2 : c.argTypes[0]? = some t := by rw [← Array.getElem?_toList, htys]; rfl
      exact wp_of_op (f := Builtin.clear_ c.argTypes o.type #[a.eval x]) (by rw [he, e1]; simp only [builtin, run_v]) (clearA_ok hm none c.argTypes o.type e2 (ev_ok hρ x) h) hn
    · rename_i hc
      rw [show isNew (.call c) = false by simp only [isNew, hc]] at hn
      split at h <;> try (exact h.elim)
      rename_i x t ts harg htys
      have he := execOp_builtin (P := P) (w := w) (a := a) c _ hc hop
      have e1 : c.args.map a.eval = #[a.eval x] := by apply Array.ext'; simp [harg]
      have e2 : c.argTypes[0]? = some t := by rw [← Array.getElem?_toList, htys]; rfl
      refine wp_of_op (f := Builtin.len_ c.argTypes o.type #[a.eval x]) (by rw [he, e1]; simp only [builtin, run_v]) ((lenA_ok c.argTypes o.type e2 (ev_ok hρ x) _ h).op hm none (K := K)) hn
    · rename_i hc
      rw [show isNew (.call c) = true by simp only [isNew, hc]] at hn
      split at h <;> try (exact h.elim)
      rename_i x y tx ty harg htys
      have he := execOp_builtin (P := P) (w := w) (a := a) c _ hc hop
      have e1 : c.args.map a.eval = #[a.eval x, a.eval y] := by apply Array.ext'; simp [harg]
      have e2 : c.argTypes = #[tx, ty] := by apply Array.ext'; simp [htys]
      exact wp_of_op (f := Builtin.append_ #[tx, ty] o.type #[a.eval x, a.eval y]) (by rw [he, e1, e2]; simp only [builtin, run_v]) (appendA_ok hm hid hW _ o.type (ev_ok hρ x) (ev_ok hρ y) K h) hn
    · rename_i hc
      rw [show isNew (.call c) = false by simp only [isNew, hc]] at hn
      split at h <;> try (exact h.elim)
      rename_i x y tx ty harg htys
      have he := execOp_builtin (P := P) (w := w) (a := a) c _ hc hop
      have e1 : c.args.map a.eval = #[a.eval x, a.eval y] := by apply Array.ext'; simp [harg]
      have e2 : c.argTypes = #[tx, ty] := by apply Array.ext'; simp [htys]
      exact wp_of_op (f := Builtin.copy_ #[tx, ty] o.type #[a.eval x, a.eval y]) (by rw [he, e1, e2]; simp only [builtin, run_v]) (copyA_ok hm o.type (ev_ok hρ x) (ev_ok hρ y) K h) hn
    · rename_i hc
      rw [show isNew (.call c) = false by simp only [isNew, hc]] at hn
      have he := execOp_builtin (P := P) (w := w) (a := a) c _ hc hop
      have := (mmA_ok (P := P) (X := X) (pl := pl) (w := w) true c.argTypes o.type _ (c.args.map a.eval).toList (by simp) (evs_ok hρ c.args) _ h).op hm none (K := K)
      simp only [Array.toArray_toList] at this
      exact wp_of_op (by rw [he]; simp only [builtin, run_v]) this hn
    · rename_i hc
      rw [show isNew (.call c) = false by simp only [isNew, hc]] at hn
      have he := execOp_builtin (P := P) (w := w) (a := a) c _ hc hop
      have := (mmA_ok (P := P) (X := X) (pl := pl) (w := w) false c.argTypes o.type _ (c.args.map a.eval).toList (by simp) (evs_ok hρ c.args) _ h).op hm none (K := K)
      simp only [Array.toArray_toList] at this
      exact wp_of_op (by rw [he]; simp only [builtin, run_v]) this hn
    · exact h.elim
  | _ => simp only [opA, hop] at h
end op

end
end Go.AW

/- Soundness: calls that change memory. -/
set_option linter.unusedVariables false
set_option linter.unusedSimpArgs false
namespace Go.AW
open Go

section
variable {P : Program} {X X' : Xs} {W : Nat → Prop} {pl pl' : Pl} {w w' : World} {m : Mem}

/-- Placements that agree, but for a renaming. -/
def Ren (σ : List (Nat × Nat)) (pl pl' : Pl) : Prop := ∀ i, asHas σ i = true → pl' (asGet σ i) = pl i

theorem tok_ren {i j : Nat} (h : pl' j = pl i) {sz : Nat} {rows : List (List T)} {v : Value} : TokOk pl' sz rows v j ↔ TokOk pl sz rows v i := by
  unfold TokOk
  rw [h]

theorem ren0_rel {σ : List (Nat × Nat)} (hR : Ren σ pl pl') {t : T} (hd : dom0 σ t = true) {v : Value} : VRel X pl' w (ren0 σ t) v ↔ VRel X pl w t v := by
  have pq : ∀ {i : Nat}, asHas σ i = true → ∀ l, pl' (asGet σ i) = some l ↔ pl i = some l := fun {i} h l => by rw [hR i h]
  cases t with
  | dead => exact ⟨fun _ => .dead _, fun _ => .dead _⟩
  | lit u => constructor <;> (intro h; cases h; exact .lit _)
  | sl tok sz rows =>
    cases tok with
    | none => constructor <;> (intro h; cases h with | sl _ _ _ _ hb _ => exact .sl _ _ _ _ hb (by simp))
    | some i =>
      have e := hR i hd
      constructor
      · intro h
        cases h with
        | sl _ _ _ _ hb ht =>
          refine .sl _ _ _ _ (by cases hb with | sl _ _ _ a cap cs h1 h2 h3 h4 => exact .sl _ _ _ a cap cs h1 h2 h3 h4) ?_
          intro id e2
          obtain rfl := Option.some.inj e2
          exact (tok_ren e).1 (ht _ rfl)
      · intro h
        cases h with
        | sl _ _ _ _ hb ht =>
          refine .sl _ _ _ _ (by cases hb with | sl _ _ _ a cap cs h1 h2 h3 h4 => exact .sl _ _ _ a cap cs h1 h2 h3 h4) ?_
          intro id e2
          obtain rfl := Option.some.inj e2
          exact (tok_ren e).2 (ht _ rfl)
  | agg => simp [dom0] at hd
  | tup => simp [dom0] at hd
  | clo => simp [dom0] at hd
  | ifc => constructor <;> (intro h; cases h with | ifc _ _ _ hb => exact .ifc _ _ _ hb)
  | ptr i r o =>
    constructor
    · intro h
      cases h with
      | ptr _ _ _ b sz hp => exact .ptr _ _ _ b sz (hp.imp (pq hd _).1 (pq hd _).1)
    · intro h
      cases h with
      | ptr _ _ _ b sz hp => exact .ptr _ _ _ b sz (hp.imp (pq hd _).2 (pq hd _).2)
  | sref i lo len =>
    constructor
    · intro h
      generalize hu : ren0 σ (.sref i lo len) = u at h
      cases h <;> simp only [ren0, reduceCtorEq] at hu
      · rename_i hp
        injection hu with h1 h2 h3
        subst h1 h2 h3
        exact .srefn _ (hp.imp (pq hd _).1 (pq hd _).1)
      · rename_i b sz cap hp hl hr
        injection hu with h1 h2 h3
        subst h1 h2 h3
        exact .sref _ _ _ b sz cap (hp.imp (pq hd _).1 (pq hd _).1) hl fun e => hr ((pq hd _).2 e)
      · rename_i b sz a hp
        injection hu with h1 h2 h3
        subst h1 h2 h3
        exact .srefz _ _ b sz a (hp.imp (pq hd _).1 (pq hd _).1)
    · intro h
      cases h with
      | srefn _ hp => exact .srefn _ (hp.imp (pq hd _).2 (pq hd _).2)
      | sref _ _ _ b sz cap hp hl hr => exact .sref _ _ _ b sz cap (hp.imp (pq hd _).2 (pq hd _).2) hl fun e => hr ((pq hd _).1 e)
      | srefz _ _ b sz a hp => exact .srefz _ _ b sz a (hp.imp (pq hd _).2 (pq hd _).2)
  | vp => constructor <;> (intro h; cases h with | vp _ _ b o cs hb => exact .vp _ _ b o cs hb)
  | itr i =>
    constructor
    · intro h; cases h with | itr _ b hp => exact .itr _ b ((pq hd _).1 hp)
    · intro h; cases h with | itr _ b hp => exact .itr _ b ((pq hd _).2 hp)
  | mref i =>
    constructor
    · intro h; cases h with | mref _ b hp => exact .mref _ b ((pq hd _).1 hp)
    · intro h; cases h with | mref _ b hp => exact .mref _ b ((pq hd _).2 hp)

theorem renL_rel {f : T → T} {d : T → Bool} (hf : ∀ t v, d t = true → (VRel X pl' w (f t) v ↔ VRel X pl w t v)) {ts : List T} (hd : ts.all d = true) {vs : List Value} :
    (∀ (i : Nat) (t : T) (v : Value), (ts.map f)[i]? = some t → vs[i]? = some v → VRel X pl' w t v) ↔ (∀ (i : Nat) (t : T) (v : Value), ts[i]? = some t → vs[i]? = some v → VRel X pl w t v) := by
  constructor
  · intro h i t v ht hv
    exact (hf t v (List.all_eq_true.1 hd t (List.mem_of_getElem? ht))).1 (h i (f t) v (by simp [ht]) hv)
  · intro h i t v ht hv
    simp only [List.getElem?_map] at ht
    cases e : ts[i]? with
    | none => simp [e] at ht
    | some u =>
      simp [e] at ht
      subst ht
      exact (hf u v (List.all_eq_true.1 hd u (List.mem_of_getElem? e))).2 (h i u v e hv)

theorem renA_rel {σ : List (Nat × Nat)} (hR : Ren σ pl pl') {t : T} (hd : domA σ t = true) {v : Value} : VRel X pl' w (renA σ t) v ↔ VRel X pl w t v := by
  by_cases ha : ∃ cs, t = .agg cs
  · obtain ⟨cs, rfl⟩ := ha
    constructor
    · intro h
      generalize hu : renA σ (.agg cs) = u at h
      cases h <;> simp only [renA, reduceCtorEq] at hu
      rename_i ts vs hl hh
      injection hu with hu
      subst hu
      exact .agg _ vs (by simpa using hl) ((renL_rel (f := ren0 σ) (d := dom0 σ) (fun t v h => ren0_rel hR h) hd).1 hh)
    · intro h
      cases h with
      | agg _ vs hl hh => exact .agg _ vs (by simpa using hl) ((renL_rel (f := ren0 σ) (d := dom0 σ) (fun t v h => ren0_rel hR h) hd).2 hh)
  · have e : renA σ t = ren0 σ t := by cases t <;> first | rfl | exact absurd ⟨_, rfl⟩ ha
    have e2 : dom0 σ t = true := by cases t <;> first | exact hd | exact absurd ⟨_, rfl⟩ ha
    rw [e]; exact ren0_rel hR e2

theorem renT_rel {σ : List (Nat × Nat)} (hR : Ren σ pl pl') {t : T} (hd : domT σ t = true) {v : Value} : VRel X pl' w (renT σ t) v ↔ VRel X pl w t v := by
  by_cases ha : ∃ cs, t = .tup cs
  · obtain ⟨cs, rfl⟩ := ha
    constructor
    · intro h
      generalize hu : renT σ (.tup cs) = u at h
      cases h <;> simp only [renT, reduceCtorEq] at hu
      rename_i ts vs hl hh
      injection hu with hu
      subst hu
      exact .tup _ vs (by simpa using hl) ((renL_rel (f := renA σ) (d := domA σ) (fun t v h => renA_rel hR h) hd).1 hh)
    · intro h
      cases h with
      | tup _ vs hl hh => exact .tup _ vs (by simpa using hl) ((renL_rel (f := renA σ) (d := domA σ) (fun t v h => renA_rel hR h) hd).2 hh)
  · by_cases hc : ∃ f cs, t = .clo f cs
    · obtain ⟨f, cs, rfl⟩ := hc
      constructor
      · intro h
        generalize hu : renT σ (.clo f cs) = u at h
        cases h <;> simp only [renT, reduceCtorEq] at hu
        rename_i f2 ts vs hl hh
        injection hu with h1 h2
        subst h1 h2
        exact .clo _ _ vs (by simpa using hl) ((renL_rel (f := ren0 σ) (d := dom0 σ) (fun t v h => ren0_rel hR h) hd).1 hh)
      · intro h
        cases h with
        | clo _ _ vs hl hh => exact .clo _ _ vs (by simpa using hl) ((renL_rel (f := ren0 σ) (d := dom0 σ) (fun t v h => ren0_rel hR h) hd).2 hh)
    · have e : renT σ t = renA σ t := by cases t <;> first | rfl | exact absurd ⟨_, rfl⟩ ha | exact absurd ⟨_, _, rfl⟩ hc
      have e2 : domA σ t = true := by cases t <;> first | exact hd | exact absurd ⟨_, rfl⟩ ha | exact absurd ⟨_, _, rfl⟩ hc
      rw [e]; exact renA_rel hR e2

theorem renB_rel {σ : List (Nat × Nat)} (hR : Ren σ pl pl') {l : Loc} {b : Blk} (hd : domB σ b) : BlkOk X pl' w l (renB σ b) ↔ BlkOk X pl w l b := by
  cases b with
  | own sz rows =>
    constructor
    · rintro (⟨h1, h2⟩ | ⟨b, h1, cs, e, fr, h2, h3, h4, h5⟩)
      · exact .inl ⟨h1, by simpa using h2⟩
      · refine .inr ⟨b, h1, cs, e, fr, h2, h3, by simpa using h4, fun i row hr => ?_⟩
        obtain ⟨g1, g2⟩ := h5 i (row.map (ren0 σ)) (by simp [hr])
        refine ⟨by simpa using g1, fun j t ht => ?_⟩
        obtain ⟨v, hv, hvr⟩ := g2 j (ren0 σ t) (by simp [ht])
        exact ⟨v, hv, (ren0_rel hR (hd row (List.mem_of_getElem? hr) t (List.mem_of_getElem? ht))).1 hvr⟩
    · rintro (⟨h1, h2⟩ | ⟨b, h1, cs, e, fr, h2, h3, h4, h5⟩)
      · exact .inl ⟨h1, by simpa using h2⟩
      · refine .inr ⟨b, h1, cs, e, fr, h2, h3, by simpa using h4, fun i row hr => ?_⟩
        simp only [List.getElem?_map] at hr
        cases e2 : rows[i]? with
        | none => simp [e2] at hr
        | some row0 =>
          simp [e2] at hr
          subst hr
          obtain ⟨g1, g2⟩ := h5 i row0 e2
          refine ⟨by simpa using g1, fun j t ht => ?_⟩
          simp only [List.getElem?_map] at ht
          cases e3 : row0[j]? with
          | none => simp [e3] at ht
          | some t0 =>
            simp [e3] at ht
            subst ht
            obtain ⟨v, hv, hvr⟩ := g2 j t0 e3
            exact ⟨v, hv, (ren0_rel hR (hd row0 (List.mem_of_getElem? e2) t0 (List.mem_of_getElem? e3))).2 hvr⟩
  | tok => exact Iff.rfl
  | iter => exact Iff.rfl
  | map => exact Iff.rfl

/-- Removing and putting many. -/
def Mem.delAll : List Nat → Mem → Mem
  | [], m => m
  | j :: r, m => Mem.delAll r (m.del j)
def Mem.putAll : Mem → Mem → Mem
  | [], m => m
  | (i, b) :: r, m => (Mem.putAll r m).put i b
theorem delL_eq : ∀ (js : List Nat) (m : Mem) (K : Mem → Prop), delL js m K = K (Mem.delAll js m)
  | [], m, K => rfl
  | j :: r, m, K => by simp only [delL, delF_eq, Mem.delAll]; exact delL_eq r _ K
theorem putL_eq : ∀ (mR m : Mem) (K : Mem → Prop), putL mR m K = K (Mem.putAll mR m)
  | [], m, K => rfl
  | (i, b) :: r, m, K => by simp only [putL, Mem.putAll, putL_eq r, memF_eq]
theorem get_delAll : ∀ (js : List Nat) (m : Mem) (i : Nat), (Mem.delAll js m).get i = if i ∈ js then none else m.get i
  | [], m, i => by simp [Mem.delAll]
  | j :: r, m, i => by
    rw [Mem.delAll, get_delAll r]
    by_cases h : i ∈ r
    · simp [h]
    · by_cases e : i = j
      · subst e; simp [h, Mem.get_del_same]
      · simp [h, e, Mem.get_del_other _ _ _ (Ne.symm e)]
theorem get_putAll : ∀ (mR m : Mem) (i : Nat), (Mem.putAll mR m).get i = match mR.get i with | some b => some b | none => m.get i
  | [], m, i => rfl
  | (j, b) :: r, m, i => by
    rw [Mem.putAll]
    by_cases e : j = i
    · subst e; rw [Mem.get_put_same]; simp [Mem.get]
    · rw [Mem.get_put_other _ _ _ _ e, get_putAll r]
      simp [Mem.get, beq_ne e]

theorem memB_mem {l : List Nat} {i : Nat} : memB l i = true ↔ i ∈ l := by
  induction l with
  | nil => simp [memB]
  | cons k r ih =>
    simp only [memB, List.mem_cons]
    cases h : Nat.beq k i with
    | true => simp [Nat.eq_of_beq_eq_true h]
    | false =>
      have : ¬ i = k := fun e => by subst e; simp at h
      simp [ih, this]
theorem nodupB_nodup {l : List Nat} (h : nodupB l = true) : l.Nodup := by
  induction l with
  | nil => exact .nil
  | cons j r ih =>
    simp only [nodupB, Bool.and_eq_true, Bool.not_eq_true'] at h
    refine List.nodup_cons.2 ⟨fun hm => ?_, ih h.2⟩
    rw [memB_mem.2 hm] at h; cases h.1
theorem asIn_has : ∀ (js : List Nat) (n i : Nat), asHas (asIn js n) i = true → n ≤ i ∧ js[i - n]? = some (asGet (asIn js n) i)
  | [], n, i, h => by simp [asIn, asHas] at h
  | j :: r, n, i, h => by
    simp only [asIn, asHas, asGet] at h ⊢
    cases e : Nat.beq n i with
    | true =>
      obtain rfl := Nat.eq_of_beq_eq_true e
      simp
    | false =>
      simp only [e, cond_false] at h ⊢
      obtain ⟨h1, h2⟩ := asIn_has r (n + 1) i h
      refine ⟨by omega, ?_⟩
      rw [show i - n = (i - (n + 1)) + 1 by omega, List.getElem?_cons_succ]
      exact h2
theorem asIn_get : ∀ (js : List Nat) (n k j : Nat), js[k]? = some j → asHas (asIn js n) (n + k) = true ∧ asGet (asIn js n) (n + k) = j
  | [], n, k, j, h => by simp at h
  | x :: r, n, k, j, h => by
    simp only [asIn, asHas, asGet]
    cases k with
    | zero => simp at h; subst h; simp
    | succ k =>
      have hne : n ≠ n + (k + 1) := by omega
      simp only [beq_ne hne, cond_false]
      rw [show n + (k + 1) = n + 1 + k by omega]
      exact asIn_get r (n + 1) k j (by simpa using h)

theorem memIn_get {σ : List (Nat × Nat)} : ∀ {m0 : Mem}, memIn σ m m0 → ∀ {i : Nat} {b : Blk}, m0.get i = some b → asHas σ i = true ∧ m.get (asGet σ i) = some (renB σ b) ∧ domB σ b
  | [], _, i, b, h => by simp [Mem.get] at h
  | (k, c) :: r, hm, i, b, h => by
    simp only [Mem.get] at h
    cases e : Nat.beq k i with
    | true =>
      obtain rfl := Nat.eq_of_beq_eq_true e
      simp only [e, cond_true, Option.some.injEq] at h
      subst h
      exact hm.1
    | false => simp only [e, cond_false] at h; exact memIn_get hm.2 h

theorem memOut_get {σ : List (Nat × Nat)} : ∀ {m1 mR : Mem}, memOut σ m1 mR → ∀ {j : Nat} {c : Blk}, mR.get j = some c → ∃ i b, asHas σ i = true ∧ asGet σ i = j ∧ m1.get i = some b ∧ renB σ b = c ∧ domB σ b
  | [], [], _, j, c, h => by simp [Mem.get] at h
  | (i0, b0) :: r, (j0, c0) :: s, hm, j, c, h => by
    obtain ⟨⟨h1, h2, h3, h4⟩, hr⟩ := hm
    simp only [Mem.get] at h
    cases e : Nat.beq j0 j with
    | true =>
      obtain rfl := Nat.eq_of_beq_eq_true e
      simp only [e, cond_true, Option.some.injEq] at h
      subst h
      exact ⟨i0, b0, h1, h2, by simp [Mem.get], h3, h4⟩
    | false =>
      simp only [e, cond_false] at h
      obtain ⟨i, b, g1, g2, g3, g4, g5⟩ := memOut_get hr h
      refine ⟨i, b, g1, g2, ?_, g4, g5⟩
      have : i0 ≠ i := fun e2 => by subst e2; rw [h2] at g2; subst g2; simp at e
      simp [Mem.get, beq_ne this, g3]
  | [], _ :: _, hm, _, _, _ => hm.elim
  | _ :: _, [], hm, _, _, _ => hm.elim

theorem hasL_get {js : List Nat} (h : hasL m js) : ∀ j ∈ js, (m.get j).isSome = true := by
  induction js with
  | nil => simp
  | cons k r ih =>
    intro j hj
    rcases List.mem_cons.1 hj with rfl | hj
    · exact h.1
    · exact ih h.2 j hj

/-- Where an id of the caller's comes from. -/
def asBack : List Nat → Nat → Nat → Option Nat
  | [], _, _ => none
  | j :: r, n, i => if j = i then some n else asBack r (n + 1) i
theorem asBack_some : ∀ {js : List Nat} {n i k : Nat}, asBack js n i = some k → n ≤ k ∧ js[k - n]? = some i
  | [], n, i, k, h => by simp [asBack] at h
  | j :: r, n, i, k, h => by
    simp only [asBack] at h
    split at h
    · rename_i e; cases h; subst e; simp
    · obtain ⟨h1, h2⟩ := asBack_some h
      refine ⟨by omega, ?_⟩
      rw [show k - n = (k - (n + 1)) + 1 by omega, List.getElem?_cons_succ]
      exact h2
theorem asBack_none : ∀ {js : List Nat} {n i : Nat}, asBack js n i = none → i ∉ js
  | [], n, i, h => by simp
  | j :: r, n, i, h => by
    simp only [asBack] at h
    split at h
    · cases h
    · rename_i e
      simp only [List.mem_cons, not_or]
      exact ⟨fun e2 => e e2.symm, asBack_none h⟩
theorem asBack_get : ∀ {js : List Nat} (n : Nat), js.Nodup → ∀ {k i : Nat}, js[k]? = some i → asBack js n i = some (n + k)
  | [], n, _, k, i, h => by simp at h
  | j :: r, n, hn, k, i, h => by
    simp only [asBack]
    cases k with
    | zero => simp at h; simp [h]
    | succ k =>
      have h' : r[k]? = some i := by simpa using h
      have hne : j ≠ i := fun e => by subst e; exact (List.nodup_cons.1 hn).1 (List.mem_of_getElem? h')
      rw [if_neg hne, asBack_get (n + 1) (List.nodup_cons.1 hn).2 h']
      congr 1; omega

theorem free_of_ne {l : Loc} {b off : Nat} (h : ∀ b', l.blk = some b' → b' ≠ b) : l.free b off := by
  cases l <;> simp only [Loc.free, Loc.blk] at *
  · exact fun e => h _ rfl e.symm
  · exact fun e => absurd e.symm (h _ rfl)
  · exact fun e => h _ rfl e.symm


/-- What a call that changes memory leaves its caller. -/
theorem callM_core (hm : MRel X W pl w m) {id : Nat} (hid : pl id = none) (hW : ∀ b, w.heap.size ≤ b → W b) {js : List Nat} {ts0 : List T} {m0 m1 mR : Mem} {o : T}
    (hnd : nodupB js = true) (hhas : hasL m js) (hdom : ts0.all (domT (asIn js 0)) = true) (hin : memIn (asIn js 0) m m0)
    (hdo : domT (asIn (js ++ [id]) 0) o = true) (hout : memOut (asIn (js ++ [id]) 0) m1 mR) {args : List Value}
    (hargs : ∀ (i : Nat) (t : T) (v : Value), (ts0.map (renT (asIn js 0)))[i]? = some t → args[i]? = some v → VRel X pl w t v) :
    ∃ (W1 : Nat → Prop) (pl1 : Pl), MRel X W1 pl1 w m0 ∧ (∀ b, w.heap.size ≤ b → W1 b) ∧ (∀ i l, pl1 i = some l → i < js.length) ∧
      (∀ (i : Nat) (t : T) (v : Value), ts0[i]? = some t → args[i]? = some v → VRel X pl1 w t v) ∧
      ∀ (v : Value) (w' : World) (X' : Xs) (pl1' : Pl), XMono X X' w w' → PMono pl1 pl1' w w' → Ext W1 w w' → MRel X' W1 pl1' w' m1 → (∀ b off, X' b off → X b off ∨ W1 b) → VRel X' pl1' w' o v →
        StepOk X W pl w (some id) (Mem.putAll mR (Mem.delAll js m)) (renT (asIn (js ++ [id]) 0) o) v w' := by
  have nd := nodupB_nodup hnd
  have jsome : ∀ j ∈ js, ∃ l, pl j = some l := fun j hj => by
    have := hasL_get hhas j hj
    cases e : m.get j with
    | none => rw [e] at this; cases this
    | some b => obtain ⟨l, hl, _⟩ := hm.blk j b e; exact ⟨l, hl⟩
  have idn : id ∉ js := fun h => by obtain ⟨l, hl⟩ := jsome id h; rw [hid] at hl; cases hl
  have nd2 : (js ++ [id]).Nodup := by
    rw [List.nodup_append]
    exact ⟨nd, by simp, fun a ha b hb => by simp at hb; subst hb; exact fun e => idn (e ▸ ha)⟩
  let pl1 : Pl := fun i => if asHas (asIn js 0) i = true then pl (asGet (asIn js 0) i) else none
  have hR : Ren (asIn js 0) pl1 pl := fun i hi => by simp only [pl1, if_pos hi]
  have p1 : ∀ i l, pl1 i = some l → ∃ j, js[i]? = some j ∧ pl j = some l := by
    intro i l hl
    simp only [pl1] at hl
    split at hl
    · rename_i hi
      obtain ⟨_, h2⟩ := asIn_has js 0 i hi
      exact ⟨_, by simpa using h2, hl⟩
    · cases hl
  have p1' : ∀ i j : Nat, js[i]? = some j → pl1 i = pl j := by
    intro i j hj
    obtain ⟨h1, h2⟩ := asIn_get js 0 i j hj
    rw [Nat.zero_add] at h1 h2
    simp only [pl1, if_pos h1, h2]
  let W1 : Nat → Prop := fun b => (∃ i l, pl1 i = some l ∧ l.blk = some b) ∨ w.heap.size ≤ b
  have W1W : ∀ b, W1 b → W b := by
    rintro b (⟨i, l, hl, hb⟩ | h)
    · obtain ⟨j, _, hj⟩ := p1 i l hl
      exact (hm.placed j l b hj hb).1
    · exact hW b h
  have inj : ∀ i k j : Nat, js[i]? = some j → js[k]? = some j → i = k := by
    intro i k j h1 h2
    have := asBack_get 0 nd h1
    rw [asBack_get 0 nd h2] at this
    have := Option.some.inj this
    omega
  have hm1 : MRel X W1 pl1 w m0 := by
    refine ⟨?_, ?_, ?_, ?_, hm.glob⟩
    · intro i b hb
      obtain ⟨h1, h2, h3⟩ := memIn_get hin hb
      obtain ⟨l, hl, hk⟩ := hm.blk _ _ h2
      exact ⟨l, by simp only [pl1, if_pos h1]; exact hl, (renB_rel hR h3).1 hk⟩
    · intro i l b hl hb
      obtain ⟨j, _, hj⟩ := p1 i l hl
      exact ⟨.inl ⟨i, l, hl, hb⟩, (hm.placed j l b hj hb).2⟩
    · intro i k l l' b hl hl' hb hb'
      obtain ⟨j, hj1, hj⟩ := p1 i l hl
      obtain ⟨j', hj1', hj'⟩ := p1 k l' hl'
      have := hm.apart j j' l l' b hj hj' hb hb'
      subst this
      exact inj i k j hj1 hj1'
    · intro b off hx
      refine ⟨(hm.xin b off hx).1, fun i l hl => ?_⟩
      obtain ⟨j, _, hj⟩ := p1 i l hl
      exact (hm.xin b off hx).2 j l hj
  refine ⟨W1, pl1, hm1, fun b hb => .inr hb, fun i l hl => by obtain ⟨j, hj, _⟩ := p1 i l hl; exact (List.getElem?_eq_some_iff.1 hj).1,
    (renL_rel (f := renT (asIn js 0)) (d := domT (asIn js 0)) (fun t v h => renT_rel hR h) hdom).1 hargs, ?_⟩
  intro v w' X' pl1' hx hp1 he hm' hX hv
  let pl' : Pl := fun j => match asBack (js ++ [id]) 0 j with | some i => pl1' i | none => pl j
  have hR' : Ren (asIn (js ++ [id]) 0) pl1' pl' := by
    intro i hi
    obtain ⟨_, h2⟩ := asIn_has (js ++ [id]) 0 i hi
    rw [Nat.sub_zero] at h2
    have := asBack_get 0 nd2 h2
    simp only [pl', this, Nat.zero_add]
  have back : ∀ j, j ∉ js → j ≠ id → pl' j = pl j := by
    intro j h1 h2
    simp only [pl']
    cases e : asBack (js ++ [id]) 0 j with
    | none => rfl
    | some i =>
      obtain ⟨_, h3⟩ := asBack_some e
      have := List.mem_of_getElem? h3
      simp at this
      rcases this with h | h
      · exact absurd h h1
      · exact absurd h h2
  have fwd : ∀ i j : Nat, js[i]? = some j → pl' j = pl1' i := by
    intro i j h
    have h2 : (js ++ [id])[i]? = some j := by rw [List.getElem?_append_left (List.getElem?_eq_some_iff.1 h).1]; exact h
    have := asBack_get 0 nd2 h2
    simp only [pl', this, Nat.zero_add]
  have plk : ∀ j l, pl' j = some l → (∃ i, (js ++ [id])[i]? = some j ∧ pl1' i = some l) ∨ (j ∉ js ∧ j ≠ id ∧ pl j = some l) := by
    intro j l hl
    simp only [pl'] at hl
    cases e : asBack (js ++ [id]) 0 j with
    | none =>
      rw [e] at hl
      have := asBack_none e
      simp only [List.mem_append, List.mem_singleton, not_or] at this
      exact .inr ⟨this.1, this.2, hl⟩
    | some i =>
      rw [e] at hl
      obtain ⟨_, h3⟩ := asBack_some e
      exact .inl ⟨i, by simpa using h3, hl⟩
  -- blocks of the others are left alone
  have others : ∀ j l b, j ∉ js → pl j = some l → l.blk = some b → ¬ W1 b := by
    rintro j l b hj hl hb (⟨i, l', hl', hb'⟩ | h)
    · obtain ⟨j', hj', hpj⟩ := p1 i l' hl'
      have := hm.apart j j' l l' b hl hpj hb hb'
      subst this
      exact hj (List.mem_of_getElem? hj')
    · have := (hm.placed j l b hl hb).2
      omega
  have okeep : ∀ j l b, j ∉ js → pl j = some l → l.blk = some b → w'.heap[b]? = w.heap[b]? := fun j l b hj hl hb => he.keep b (hm.placed j l b hl hb).2 (others j l b hj hl hb)
  have hp : PMono pl pl' w w' := by
    intro j l hl
    by_cases hj : j ∈ js
    · obtain ⟨i, hi⟩ := List.getElem?_of_mem hj
      obtain ⟨⟨l', hl', hle⟩, hr⟩ := hp1 i l (by rw [p1' i j hi]; exact hl)
      refine ⟨⟨l', by rw [fwd i j hi]; exact hl', hle⟩, fun b sz e e2 n hn => hr b sz e (by rw [← fwd i j hi]; exact e2) n hn⟩
    · have hne : j ≠ id := fun e => by subst e; rw [hid] at hl; cases hl
      refine ⟨⟨l, by rw [back j hj hne]; exact hl, l.le_refl⟩, ?_⟩
      rintro b sz rfl _ n hn
      exact roomy_of_heap (okeep j _ b hj hl rfl) hn
  refine ⟨X', pl', hx, hp, ?_, he.weaken fun b _ h => W1W b h, ?_, (renT_rel hR' hdo).2 hv, fun b off h => (hX b off h).imp (fun h => h) (W1W b)⟩
  · intro i hi hn
    have h1 : i ∉ js := fun h => by obtain ⟨l, hl⟩ := jsome i h; rw [hn] at hl; cases hl
    rw [back i h1 (fun e => hi (by rw [e]))]; exact hn
  refine ⟨?_, ?_, ?_, ?_, hm.glob.mono hx⟩
  · intro j b hb
    rw [get_putAll] at hb
    cases e : mR.get j with
    | some c =>
      rw [e] at hb
      obtain rfl := Option.some.inj hb
      obtain ⟨i, b0, h1, h2, h3, h4, h5⟩ := memOut_get hout e
      obtain ⟨l, hl, hk⟩ := hm'.blk i b0 h3
      refine ⟨l, by rw [← h2, hR' i h1]; exact hl, ?_⟩
      rw [← h4]
      exact (renB_rel hR' h5).2 hk
    | none =>
      rw [e] at hb
      simp only at hb
      rw [get_delAll] at hb
      split at hb
      · cases hb
      · rename_i hj
        obtain ⟨l, hl, hk⟩ := hm.blk j b hb
        have hne : j ≠ id := fun e => by subst e; rw [hid] at hl; cases hl
        exact ⟨l, by rw [back j hj hne]; exact hl, hk.mono hx hp fun b' hb' => okeep j l b' hj hl hb'⟩
  · intro j l b hl hb
    rcases plk j l hl with ⟨i, _, hi⟩ | ⟨h1, h2, hi⟩
    · obtain ⟨g1, g2⟩ := hm'.placed i l b hi hb
      exact ⟨W1W b g1, g2⟩
    · obtain ⟨g1, g2⟩ := hm.placed j l b hi hb
      exact ⟨g1, Nat.lt_of_lt_of_le g2 he.size⟩
  · intro j k l l' b hl hl' hb hb'
    rcases plk j l hl with ⟨i, hji, hi⟩ | ⟨h1, h2, hi⟩
    · rcases plk k l' hl' with ⟨i', hki, hi'⟩ | ⟨h1', h2', hi'⟩
      · have := hm'.apart i i' l l' b hi hi' hb hb'
        subst this
        rw [hji] at hki
        exact Option.some.inj hki
      · exact absurd (hm'.placed i l b hi hb).1 (others k l' b h1' hi' hb')
    · rcases plk k l' hl' with ⟨i', hki, hi'⟩ | ⟨h1', h2', hi'⟩
      · exact absurd (hm'.placed i' l' b hi' hb').1 (others j l b h1 hi hb)
      · exact hm.apart j k l l' b hi hi' hb hb'
  · intro b off hxb
    obtain ⟨g1, g2⟩ := hm'.xin b off hxb
    refine ⟨g1, fun j l hl => ?_⟩
    rcases plk j l hl with ⟨i, _, hi⟩ | ⟨h1, h2, hi⟩
    · exact g2 i l hi
    · rcases hX b off hxb with h | h
      · exact (hm.xin b off h).2 j l hi
      · exact free_of_ne fun b' hb' e => by subst e; exact others j l b' h1 hi hb' h

theorem callM_step (hm : MRel X W pl w m) {id : Nat} (hid : pl id = none) (hW : ∀ b, w.heap.size ≤ b → W b) {f : FuncId} {js : List Nat} {ts0 : List T} {m0 m1 mR : Mem} {o : T}
    {E : Ending → Value → Prop} (hF : FCe E P f ts0 m0 js.length o m1) (hnd : nodupB js = true) (hhas : hasL m js) (hdom : ts0.all (domT (asIn js 0)) = true) (hin : memIn (asIn js 0) m m0)
    (hdo : domT (asIn (js ++ [id]) 0) o = true) (hout : memOut (asIn (js ++ [id]) 0) m1 mR) {args : List Value} (hlen : ts0.length = args.length)
    (hargs : ∀ (i : Nat) (t : T) (v : Value), (ts0.map (renT (asIn js 0)))[i]? = some t → args[i]? = some v → VRel X pl w t v) :
    Calls P f args.toArray w fun e w' => ∃ v, E e v ∧ StepOk X W pl w (some id) (Mem.putAll mR (Mem.delAll js m)) (renT (asIn (js ++ [id]) 0) o) v w' := by
  obtain ⟨W1, pl1, h1, h2, h3, h4, h5⟩ := callM_core hm hid hW hnd hhas hdom hin hdo hout hargs
  refine (hF X W1 pl1 w args h1 h2 h3 hlen h4).mono ?_
  rintro e w' ⟨v, X', pl1', hE, hx, hp1, he, hm', hX, hv⟩
  exact ⟨v, hE, h5 v w' X' pl1' hx hp1 he hm' hX hv⟩

theorem enter_run {c : Call} {o : Oper} {a : Act} {ρ : List (Nat × T)} {K : FuncId → List T → Prop} (hop : o.op = .call c) (hρ : EnvOk X pl w ρ a) (h : calleeK ρ c K) :
    ∃ (f : FuncId) (ts : List T) (vs : List Value), K f ts ∧ ts.length = vs.length ∧ (∀ (i : Nat) (t : T) (v : Value), ts[i]? = some t → vs[i]? = some v → VRel X pl w t v) ∧
      ∀ fn, P.funcs[f]? = some fn → fn.body.isSome = true → (!(fn.name == "runtime.NumGoroutine")) = true → (execOp a.eval o).run P w = .ok (.enter f vs.toArray) w := by
  unfold calleeK at h
  split at h
  · rename_i f hc
    refine ⟨f, _, (c.args.map a.eval).toList, h, by simp, evs_ok hρ c.args, fun fn hfn hb hname => ?_⟩
    have hbn : ¬ fn.body = none := by rw [Option.isSome_iff_exists] at hb; obtain ⟨b, hb⟩ := hb; simp [hb]
    have hnm : ¬ fn.name = "runtime.NumGoroutine" := by simpa using hname
    rw [Array.toArray_toList]
    simp [execOp, hop, Go.resolve, hc, Act.eval, Deferred.ofValue, invoke, callFunc, hfn, hnm, hbn]
  · rename_i i hc
    split at h <;> try (exact h.elim)
    rename_i f caps hcl
    have hv := hρ i
    rw [hcl] at hv
    obtain ⟨vs, hfv, hl, hh⟩ := clo_inv hv
    refine ⟨f, _, (c.args.map a.eval).toList ++ vs, h, by simp [hl], app_rel (by simp) (evs_ok hρ c.args) hh, fun fn hfn hb hname => ?_⟩
    have hbn : ¬ fn.body = none := by rw [Option.isSome_iff_exists] at hb; obtain ⟨b, hb⟩ := hb; simp [hb]
    have hnm : ¬ fn.name = "runtime.NumGoroutine" := by simpa using hname
    have e1 : (c.args.map a.eval).toList ++ vs = ((c.args.map a.eval) ++ vs.toArray).toList := by simp
    have e2 : a.eval (.tmp i) = .func (.func f) #[] vs.toArray := hfv
    rw [e1, Array.toArray_toList]
    simp [execOp, hop, Go.resolve, hc, e2, Deferred.ofValue, invoke, callFunc, hfn, hnm, hbn]
  · exact h.elim
theorem fnOk_elim {f : FuncId} {p : Prop} (h : fnOk P f p) : ∃ fn, P.funcs[f]? = some fn ∧ fn.body.isSome = true ∧ (!(fn.name == "runtime.NumGoroutine")) = true ∧ p := by
  unfold fnOk at h
  split at h <;> try (exact h.elim)
  rename_i fn hfn
  obtain ⟨h1, h⟩ := chk_elim h
  obtain ⟨h2, h⟩ := chk_elim h
  exact ⟨fn, hfn, h1, h2, h⟩
theorem fnOk_imp {f : FuncId} {p q : Prop} (h : fnOk P f p) (hi : p → q) : fnOk P f q := by
  unfold fnOk at h ⊢
  split at h <;> try (exact h.elim)
  obtain ⟨h1, h⟩ := chk_elim h
  obtain ⟨h2, h⟩ := chk_elim h
  exact chk_intro h1 (chk_intro h2 (hi h))
theorem calleeK_imp {ρ : List (Nat × T)} {c : Call} {K K2 : FuncId → List T → Prop} (h : calleeK ρ c K) (hi : ∀ f ts, K f ts → K2 f ts) : calleeK ρ c K2 := by
  unfold calleeK at h ⊢
  split at h
  · exact hi _ _ h
  · split at h
    · exact hi _ _ h
    · exact h.elim
  · exact h.elim
theorem calleeK_ex {ρ : List (Nat × T)} {c : Call} {α : Type} {K : α → FuncId → List T → Prop} (h : calleeK ρ c fun f ts => ∃ j, K j f ts) : ∃ j, calleeK ρ c (K j) := by
  unfold calleeK at h ⊢
  split at h
  · exact h
  · split at h
    · exact h
    · exact h.elim
  · exact h.elim
theorem fnOk_ex {f : FuncId} {α : Type} {p : α → Prop} (h : fnOk P f (∃ j, p j)) : ∃ j, fnOk P f (p j) := by
  unfold fnOk at h ⊢
  split at h <;> try (exact h.elim)
  obtain ⟨h1, h⟩ := chk_elim h
  obtain ⟨h2, j, h⟩ := chk_elim h
  exact ⟨j, chk_intro h1 (chk_intro h2 h)⟩
theorem callMAny_ex {ρ : List (Nat × T)} {id : Nat} {o : Oper} {K : T → Mem → Prop} (h : callMAny P ρ m id o K) : ∃ js, callMop P ρ m id o js K := by
  unfold callMAny callMop at *
  split at h <;> try (exact h.elim)
  exact calleeK_ex (calleeK_imp h fun f ts => fnOk_ex)
theorem callMop_any {ρ : List (Nat × T)} {id : Nat} {o : Oper} {js : List Nat} {K : T → Mem → Prop} (h : callMop P ρ m id o js K) : callMAny P ρ m id o K := by
  unfold callMAny callMop at *
  split at h <;> try (exact h.elim)
  exact calleeK_imp h fun f ts h => fnOk_imp h fun h => ⟨js, h⟩

theorem callMop_ok {ρ : List (Nat × T)} {id : Nat} {o : Oper} {js : List Nat} {a : Act} {K : T → Mem → Prop} {next : Act → World → Prop} {Q : Exit → Act → World → Prop} (h : callMop P ρ m id o js K) (hρ : EnvOk X pl w ρ a) (hm : MRel X W pl w m) (hid : pl id = none) (hW : ∀ b, w.heap.size ≤ b → W b)
    (hn : ∀ v t m' w', K t m' → StepOk X W pl w (some id) m' t v w' → next (a.put o.dst v) w') : o.wp P a w next Q := by
  unfold callMop at h
  split at h <;> try (exact h.elim)
  rename_i c hop
  obtain ⟨f, ts, vs, hK, hlen, hrel, hrun⟩ := enter_run (P := P) hop hρ h
  obtain ⟨fn, hfn, h1, h2, hK⟩ := fnOk_elim hK
  unfold Oper.wp
  rw [hrun fn hfn h1 h2]
  obtain ⟨ts0, m0, r, m1, mR, oR, hF, ⟨h1, h2, h3, h4, h5, h6, h7, h8⟩, hK⟩ := hK
  rw [← h3] at hrel hlen
  have := callM_step (E := fun e v => e = .returned v) hm hid hW hF h1 h2 h4 h5 h7 h8 (by simpa using hlen) hrel
  refine this.mono ?_
  rintro e w' ⟨v, rfl, hst⟩
  rw [delL_eq, putL_eq, forceT_eq] at hK
  rw [h6] at hst
  exact hn _ _ _ _ hK hst

theorem opJ_ok {ρ : List (Nat × T)} {rl : List Nat} {id : Nat} {js : List Nat} {o : Oper} {a : Act} {K : T → Mem → Prop} {next : Act → World → Prop} {Q : Exit → Act → World → Prop} (h : opJ P ρ m rl id js o K) (hρ : EnvOk X pl w ρ a) (hm : MRel X W pl w m) (hid : pl id = none) (hW : ∀ b, w.heap.size ≤ b → W b)
    (hn : ∀ v t m' w', K t m' → StepOk X W pl w (if (isNew o.op || mcall rl o) = true then some id else none) m' t v w' → next (a.put o.dst v) w') : o.wp P a w next Q := by
  unfold opJ at h
  split at h
  · rename_i hc
    refine callMop_ok h hρ hm hid hW ?_
    intro v t m' w' hK hst
    refine hn v t m' w' hK ?_
    rw [hc, Bool.or_true, if_pos rfl]; exact hst
  · rename_i hc
    refine opA_ok h hρ hm hid hW ?_
    intro v t m' w' hK hst
    refine hn v t m' w' hK ?_
    rw [hc, Bool.or_false]; exact hst
theorem opM_js {ρ : List (Nat × T)} {rl : List Nat} {id : Nat} {o : Oper} {K : T → Mem → Prop} (h : opM P ρ m rl id o K) : ∃ js, opJ P ρ m rl id js o K := by
  unfold opM opJ at *
  split at h
  · obtain ⟨js, h⟩ := callMAny_ex h
    exact ⟨js, h⟩
  · exact ⟨[], h⟩
theorem opM_ok {ρ : List (Nat × T)} {rl : List Nat} {id : Nat} {o : Oper} {a : Act} {K : T → Mem → Prop} {next : Act → World → Prop} {Q : Exit → Act → World → Prop} (h : opM P ρ m rl id o K) (hρ : EnvOk X pl w ρ a) (hm : MRel X W pl w m) (hid : pl id = none) (hW : ∀ b, w.heap.size ≤ b → W b)
    (hn : ∀ v t m' w', K t m' → StepOk X W pl w (if (isNew o.op || mcall rl o) = true then some id else none) m' t v w' → next (a.put o.dst v) w') : o.wp P a w next Q := by
  obtain ⟨js, h⟩ := opM_js h
  exact opJ_ok h hρ hm hid hW hn

/-- An operation that panics. -/
theorem opXJ_ok {ρ : List (Nat × T)} {id : Nat} {js : List Nat} {o : Oper} {a : Act} {KP : Value → Mem → Prop} {next : Act → World → Prop} {Q : Exit → Act → World → Prop} (h : opXJ P ρ m js o KP) (hρ : EnvOk X pl w ρ a) (hm : MRel X W pl w m) (hid : pl id = none) (hW : ∀ b, w.heap.size ≤ b → W b)
    (hn : ∀ v m' w' u, KP v m' → StepOk X W pl w (some id) m' .dead u w' → Q (.panic [{ v := v, recovered := false }]) a w') : o.wp P a w next Q := by
  unfold opXJ at h
  split at h
  · rename_i x hop
    split at h <;> try (exact h.elim)
    rename_i t v hx
    have hv := ev_ok hρ x
    rw [hx] at hv
    have hv := hv.lit_inv
    unfold Oper.wp
    have : (execOp a.eval o).run P w = .halt (.panic (.iface t v)) w := by
      simp only [execOp, hop, Instr.panic, hv, goPanic, Sem.run_bind, Sem.run]
      rfl
    rw [this]
    exact hn _ _ _ undef h (.same hm _ (.dead _))
  · rename_i c hop
    obtain ⟨f, ts, vs, hK, hlen, hrel, hrun⟩ := enter_run (P := P) hop hρ h
    obtain ⟨fn, hfn, h1, h2, hK⟩ := fnOk_elim hK
    unfold Oper.wp
    rw [hrun fn hfn h1 h2]
    obtain ⟨ts0, m0, v0, hF, ⟨h1, h2, h3, h4, h5⟩, hK⟩ := hK
    rw [← h3] at hrel hlen
    have := callM_step (E := panE v0) (mR := []) (m1 := []) (o := .dead) hm hid hW hF h1 h2 h4 h5 rfl trivial (by simpa using hlen) hrel
    refine this.mono ?_
    rintro e w' ⟨v, rfl, hst⟩
    rw [delL_eq] at hK
    exact hn _ _ _ v hK hst
  · exact h.elim
theorem opX_js {ρ : List (Nat × T)} {o : Oper} {KP : Value → Mem → Prop} (h : opX P ρ m o KP) : ∃ js, opXJ P ρ m js o KP := by
  unfold opX opXJ at *
  split at h
  · exact ⟨[], h⟩
  · obtain ⟨js, h⟩ := calleeK_ex (calleeK_imp h fun f ts => fnOk_ex)
    exact ⟨js, h⟩
  · exact h.elim
end
end Go.AW
