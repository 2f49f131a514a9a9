import Derived.Test.YtmobiphgmdigjaaAw19c
/- Soundness: regions, code, functions. -/
set_option linter.unusedVariables false
set_option linter.unusedSimpArgs false
namespace Go.AW
open Go

section
variable {P : Program} {G : Gd} {X0 : Xs} {P0 : Pl} {W : Nat → Prop} {w0 : World} {X X' : Xs} {pl pl' : Pl} {w w' : World} {t : List (Nat × T)} {m m' : Mem} {n x : Nat} {a : Act}

theorem opsA_ok {ops : Array Oper} {rl : List Nat} {Q : Exit → Act → World → Prop} {KP : KPan} {K : List (Nat × T) → Mem → Nat → Prop}
    (hfin : ∀ t m x X pl a w, St G X0 P0 W w0 t m n x X pl a w → K t m x → Q .normal a w)
    (hpan : ∀ v t m x X pl a w, St G X0 P0 W w0 t m n x X pl a w → KP v t m x → Q (.panic [{ v := v, recovered := false }]) a w) :
    ∀ (l : List Oper) (k : Nat) (t : List (Nat × T)) (m : Mem) (x : Nat) (X : Xs) (pl : Pl) (a : Act) (w : World), k ≤ ops.size → ops.toList.drop k = l → opsA P ops n rl KP l t m x K → St G X0 P0 W w0 t m n x X pl a w →
      wpOps P ops Q (List.range' k l.length) a w
  | [], k, t, m, x, X, pl, a, w, hkl, hd, h, hs => by
    simp only [List.length_nil, List.range'_zero, wpOps]
    exact hfin t m x X pl a w hs h
  | o :: r, k, t, m, x, X, pl, a, w, hkl, hd, h, hs => by
    have hk : ops[k]? = some o := by
      rw [← Array.getElem?_toList]
      have : (ops.toList.drop k)[0]? = some o := by rw [hd]; rfl
      rw [List.getElem?_drop] at this
      simpa using this
    have hkl' : k + 1 ≤ ops.size := (Array.getElem?_eq_some_iff.1 hk).1
    have hd' : ops.toList.drop (k + 1) = r := by
      have : (ops.toList.drop k).drop 1 = r := by rw [hd]; rfl
      rw [List.drop_drop] at this
      exact this
    simp only [List.length_cons, List.range'_succ, wpOps, hk]
    rw [opsA_cons] at h
    rcases guard_elim hs.env h with ⟨hw, h⟩ | ⟨hw, h⟩
    · rw [if_pos hw]
      rcases stepP_elim h with h | h
      · obtain ⟨js, h⟩ := opX_js h
        refine .inl (opXJ_ok (id := x) h hs.env hs.mem (hs.next _ (Nat.le_refl _)) (fun b hb => hs.fresh b (Nat.le_trans hs.ext.size hb)) ?_)
        intro v m' w' u hK hst
        rw [forceNat_eq] at hK
        obtain ⟨t', X', pl', ht', hs'⟩ := hs.put hst (d := none) (K := fun t' => t' = t) (x' := x + 1) (fun i hi => ⟨by omega, fun e => by cases e; omega⟩) rfl
        rw [ht'] at hs'
        exact hpan v t m' (x + 1) X' pl' _ w' hs' hK
      refine .inl (opM_ok h hs.env hs.mem (hs.next _ (Nat.le_refl _)) (fun b hb => hs.fresh b (Nat.le_trans hs.ext.size hb)) ?_)
      intro v tv m' w' hK hst
      cases hnew : (isNew o.op || mcall rl o) with
      | true =>
        simp only [hnew, if_true] at hst
        obtain ⟨t', X', pl', hK', hs'⟩ := hs.put hst (x' := x + 1) (fun i hi => ⟨by omega, by simp; omega⟩) hK
        simp only [hnew, bump, forceNat_eq] at hK'
        exact opsA_ok hfin hpan r (k + 1) t' m' (x + 1) X' pl' _ w' hkl' hd' hK' hs'
      | false =>
        simp only [hnew, Bool.false_eq_true, if_false] at hst
        obtain ⟨t', X', pl', hK', hs'⟩ := hs.put hst (x' := x) (fun i hi => ⟨hi, by simp⟩) hK
        simp only [hnew, bump] at hK'
        exact opsA_ok hfin hpan r (k + 1) t' m' x X' pl' _ w' hkl' hd' hK' hs'
    · rw [if_neg (by simp [hw])]
      obtain ⟨t', X', pl', hK', hs'⟩ := hs.put (StepOk.same hs.mem none (VRel.lit undef)) (x' := x) (fun i hi => ⟨hi, by simp⟩) h
      exact opsA_ok hfin hpan r (k + 1) t' m x X' pl' _ w hkl' hd' hK' hs'

/-- A loop, by a number that falls. -/
theorem wp_loop_idx {c : Code} {Q : Exit → Act → World → Prop} (I : Nat → Act → World → Prop) {k : Nat} (h0 : I k a w)
    (round : ∀ k a w, I k a w → c.wp P (Exit.then (fun a' w' => ∃ j, j < k ∧ I j a' w') Q) a w) : (Code.loop c).wp P Q a w := by
  intro b kk cs
  have key : ∀ n a w, I n a w → ∃ e a' w', Q e a' w' ∧ Arrives P (lone (b.at a (.code c :: .inLoop c :: kk)) cs w) b kk cs e a' w' := by
    intro n
    induction n using Nat.strongRecOn with
    | _ n ih =>
      intro a w hI
      obtain ⟨e, a₁, w₁, hq, harr⟩ := round n a w hI b (.inLoop c :: kk) cs
      cases e with
      | normal =>
        obtain ⟨j, hj, hI₁⟩ := hq
        obtain ⟨e₂, a₂, w₂, hq₂, harr₂⟩ := ih j hj a₁ w₁ hI₁
        exact ⟨e₂, a₂, w₂, hq₂, .of_steps (Steps.trans harr (.one step_inLoop)) harr₂⟩
      | exit id => exact ⟨_, a₁, w₁, hq, .pass (x := .inLoop c) rfl (fun _ _ => .inl (by simp)) harr⟩
      | goto l => exact ⟨_, a₁, w₁, hq, .pass (x := .inLoop c) rfl (fun _ _ => .inl (by simp)) harr⟩
      | ret => exact ⟨_, a₁, w₁, hq, .pass (x := .inLoop c) rfl (fun _ _ => .inl (by simp)) harr⟩
      | panic ch => exact ⟨_, a₁, w₁, hq, .pass (x := .inLoop c) rfl (fun _ _ => .inl (by simp)) harr⟩
      | outgrown => exact ⟨_, a₁, w₁, hq, .pass (x := .inLoop c) rfl (fun _ _ => .inl (by simp)) harr⟩
  obtain ⟨e, a', w', hq, harr⟩ := key _ a w h0
  exact ⟨e, a', w', hq, .of_steps (.one step_loop) harr⟩

/-- Ends, abstract and concrete. -/
def exRel : Ex → Exit → Prop
  | .normal, .normal => True
  | .ret, .ret => True
  | .exit n, .exit k => n = k
  | .pan v, .panic ch => ch = [{ v := v, recovered := false }]
  | _, _ => False

/-- An abstract state holds. -/
def Holds (G : Gd) (X0 : Xs) (P0 : Pl) (W : Nat → Prop) (w0 : World) (s : S) (a : Act) (w : World) : Prop := (∀ id l, P0 id = some l → id < kOf s.r) ∧ (∀ p ∈ G.c, ltT (kOf s.r) p.1) ∧ ∃ X pl, St G X0 P0 W w0 s.t s.m s.n s.x X pl a w

def Post (G : Gd) (X0 : Xs) (P0 : Pl) (W : Nat → Prop) (w0 : World) (Q : Ex → S → Prop) : Exit → Act → World → Prop :=
  fun e a w => ∃ ex s, exRel ex e ∧ Q ex s ∧ Holds G X0 P0 W w0 s a w

theorem Holds.weaken {s s' : S} (hw : Wk s s') (h : Holds G X0 P0 W w0 s a w) : Holds G X0 P0 W w0 s' a w := by
  obtain ⟨hk, hcp, X, pl, hs⟩ := h
  obtain ⟨hk2, hw⟩ := hw
  obtain ⟨pl', hr, hpl⟩ := hw X W pl a.tmps w ⟨hs.size, hs.env, hs.mem, hs.next⟩
  refine ⟨fun id l hl => by rw [hk2]; exact hk id l hl, fun p hp => by rw [hk2]; exact hcp p hp, X, pl', ⟨hr.vals, hr.mem, hr.size, hr.next, hs.ext, hs.mono, hs.news, hs.fresh, hs.calm, ?_, ?_⟩⟩
  · intro id l hl
    have := hs.pm id l hl
    rw [hpl id (hk id l hl)]
    exact this
  · intro p hp
    exact ltT_vrel (fun id hid l hl => by rw [hpl id hid]; exact hl) (hcp p hp) (hs.cap p hp)

theorem awp_ok (c : Code) : ∀ (Q : Ex → S → Prop) (s : S) (a : Act) (w : World), awp P c Q s → Holds G X0 P0 W w0 s a w → c.wp P (Post G X0 P0 W w0 Q) a w := by
  induction c with
  | skip => intro Q s a w h hs; exact wp_skip ⟨.normal, s, trivial, h, hs⟩
  | region id ops d =>
    intro Q s a w h hs
    obtain ⟨t, m, n, x, r⟩ := s
    cases d with
    | true =>
      obtain ⟨hE, h⟩ := chk_elim h
      obtain ⟨hmix, h⟩ := chk_elim h
      obtain ⟨hk, hcp, X, pl, hs⟩ := hs
      refine drawn_ok hE hmix h hs ?_ ?_
      · intro t m X pl a w hK hst
        rw [forceNat_eq, lenF_eq] at hK
        exact ⟨.normal, _, trivial, hK, hk, hcp, X, pl, by simpa using hst⟩
      · intro v t m X pl a w hK hst
        rw [forceNat_eq, lenF_eq] at hK
        exact ⟨.pan v, _, rfl, hK, hk, hcp, X, pl, by simpa using hst⟩
    | false =>
      change opsA P ops n r (fun v t m x => Q (.pan v) ⟨t, m, n, x, r⟩) ops.toList t m x (fun t m x => Q .normal ⟨t, m, n, x, r⟩) at h
      obtain ⟨hk, hcp, X, pl, hs⟩ := hs
      refine wp_region ?_
      have := opsA_ok (P := P) (G := G) (X0 := X0) (P0 := P0) (W := W) (w0 := w0) (n := n) (ops := ops) (rl := r) (Q := Post G X0 P0 W w0 Q)
        (KP := fun v t m x => Q (.pan v) ⟨t, m, n, x, r⟩) (K := fun t m x => Q .normal ⟨t, m, n, x, r⟩) (fun t m x X pl a w hst hK => ⟨.normal, _, trivial, hK, hk, hcp, X, pl, hst⟩)
        (fun v t m x X pl a w hst hK => ⟨.pan v, _, rfl, hK, hk, hcp, X, pl, hst⟩)
        ops.toList 0 t m x X pl a w (Nat.zero_le _) (by simp) h hs
      rw [List.range_eq_range']
      simpa using this
  | seq c d ihc ihd =>
    intro Q s a w h hs
    change awp P c (seqK (awp P d) Q) s at h
    refine wp_seq (wp_mono (ihc _ s a w h hs) ?_)
    rintro e a' w' ⟨ex, s', hex, hq, hs'⟩
    cases ex <;> cases e <;> simp only [exRel] at hex
    · exact ihd Q s' a' w' hq hs'
    · exact ⟨.ret, s', trivial, hq, hs'⟩
    · subst hex; exact ⟨.exit _, s', rfl, hq, hs'⟩
    · subst hex; exact ⟨.pan _, s', rfl, hq, hs'⟩
  | cond o c d ihc ihd =>
    intro Q s a w h hs
    change condW (ev s.t o) (awp P c Q s) (awp P d Q s) at h
    unfold condW at h
    split at h <;> try (exact h.elim)
    rename_i b hb
    obtain ⟨hk, hcp, X, pl, hst⟩ := hs
    have hv := ev_ok hst.env o
    rw [hb] at hv
    have hv := hv.lit_inv
    cases b with
    | true => exact wp_cond_true hv (ihc Q s a w h ⟨hk, hcp, X, pl, hst⟩)
    | false => exact wp_cond_false hv (ihd Q s a w h ⟨hk, hcp, X, pl, hst⟩)
  | block id c ih =>
    intro Q s a w h hs
    change awp P c (blockK id Q) s at h
    refine wp_block (wp_mono (ih _ s a w h hs) ?_)
    rintro e a' w' ⟨ex, s', hex, hq, hs'⟩
    unfold blockK at hq
    cases ex <;> cases e <;> simp only [exRel] at hex
    · exact ⟨.normal, s', trivial, hq, hs'⟩
    · exact ⟨.ret, s', trivial, hq, hs'⟩
    · subst hex
      simp only [Exit.inBlock]
      rename_i i
      by_cases hi : i = id
      · subst hi
        simp only [Nat.beq_refl] at hq
        rw [if_pos rfl]
        exact ⟨.normal, s', trivial, hq, hs'⟩
      · simp only [beq_ne hi] at hq
        rw [if_neg hi]
        exact ⟨.exit i, s', rfl, hq, hs'⟩
    · subst hex; exact ⟨.pan _, s', rfl, hq, hs'⟩
  | loop c ih =>
    intro Q s a w h hs
    change LoopW (awp P c) Q s at h
    obtain ⟨I, ⟨n0, s0, hw, hI⟩, hr⟩ := h.out
    refine wp_loop_idx (fun n a w => ∃ s, I n s ∧ Holds G X0 P0 W w0 s a w) ⟨s0, hI, hs.weaken hw⟩ ?_
    rintro n a w ⟨s1, hI1, hs1⟩
    refine wp_mono (ih _ s1 a w (hr n s1 hI1) hs1) ?_
    rintro e a' w' ⟨ex, s', hex, hq, hs'⟩
    cases ex <;> cases e <;> simp only [exRel] at hex
    · obtain ⟨j, s2, hj, hw2, hI2⟩ := hq
      exact ⟨j, hj, s2, hI2, hs'.weaken hw2⟩
    · exact ⟨.ret, s', trivial, hq, hs'⟩
    · subst hex; exact ⟨.exit _, s', rfl, hq, hs'⟩
    · subst hex; exact ⟨.pan _, s', rfl, hq, hs'⟩
  | rangeFunc => intro Q s a w h; exact h.elim
  | exit id => intro Q s a w h hs; exact wp_exit ⟨.exit id, s, rfl, h, hs⟩
  | scope => intro Q s a w h; exact h.elim
  | label => intro Q s a w h; exact h.elim
  | goto => intro Q s a w h; exact h.elim
  | ret => intro Q s a w h hs; exact wp_ret ⟨.ret, s, trivial, h, hs⟩
  | refuse => intro Q s a w h; exact h.elim

end
end Go.AW
