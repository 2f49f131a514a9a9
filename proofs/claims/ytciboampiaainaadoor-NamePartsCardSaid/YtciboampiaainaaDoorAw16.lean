/- Soundness: conversions. -/
import Derived.Test.YtciboampiaainaaDoorAw15
set_option linter.unusedVariables false
set_option linter.unusedSimpArgs false
namespace Go.AW
open Go

section
variable {P : Program} {X X' : Xs} {W : Nat → Prop} {pl : Pl} {w w' : World} {m : Mem}

theorem rows_cells (hm : MRel X W pl w m) {x : T} {v : Value} (hx : VRel X pl w x v) {K : Nat → List (List T) → Prop} (h : rowsOf m x K) :
    ∃ sz rows a cap, K sz rows ∧ v = .slice a rows.length cap ∧ (rows = [] ∨ ∃ b o, ∃ cs : List Value, a = some ⟨b, o, none⟩ ∧ cs.length = rows.length * sz ∧
      (∀ (j : Nat) (u : Value), cs[j]? = some u → w.cell? ⟨b, o + j, none⟩ = some u) ∧
      ∀ (i : Nat) (row : List T), rows[i]? = some row → ∀ (j : Nat) (u : Value), row[j]? = some (.lit u) → cs[i * sz + j]? = some u) := by
  unfold rowsOf at h
  split at h
  · rename_i tok sz rows
    obtain ⟨a, cap, rfl, hcap, hrows, _⟩ := sl_inv hx
    obtain ⟨cs, hcl, hri, hmem⟩ := flat_of_sl hrows
    refine ⟨sz, rows, a, cap, h, rfl, ?_⟩
    rcases hmem with rfl | ⟨b, o, rfl, hmem⟩
    · exact .inl rfl
    · refine .inr ⟨b, o, cs, rfl, hcl, hmem, ?_⟩
      intro i row hrow j u hu
      obtain ⟨u2, hu2, hb, _⟩ := (hri i row hrow).2 j _ hu
      rw [hb.lit_inv] at hu2
      simpa using hu2
  · rename_i id lo len
    split at h <;> try (exact h.elim)
    rename_i sz rows hg
    obtain ⟨hle, hK⟩ := h
    have hlen : ((rows.drop lo).take len).length = len := by simp; omega
    cases hx with
    | srefn _ hp => exact ⟨sz, _, none, 0, hK, by simp, .inl (by simp)⟩
    | srefz _ _ b sz' a hp => exact ⟨sz, _, a, 0, hK, by simp, .inl (by simp)⟩
    | sref _ _ _ b sz' cap hp hl2 hroom =>
      replace hp := own_pl hm hg hp
      obtain ⟨rfl, cs, e, fr, hh, hu, hlen2, hr⟩ := own_get hm hg hp
      have hb1 : (lo + len) * sz' ≤ rows.length * sz' := Nat.mul_le_mul_right _ hle
      have hb2 := hb1
      rw [Nat.add_mul] at hb2
      refine ⟨sz', _, some ⟨b, lo * sz', none⟩, cap, hK, by rw [hlen], .inr ⟨b, lo * sz', (cs.toList.drop (lo * sz')).take (len * sz'), rfl, ?_, ?_, ?_⟩⟩
      · rw [hlen]; simp; omega
      · intro j u hj
        rw [List.getElem?_take] at hj
        split at hj
        · rw [List.getElem?_drop] at hj
          rw [cell_of_row w b _ cs e fr hh]
          simpa using hj
        · cases hj
      · intro i row hrow j u hu2
        rw [List.getElem?_take] at hrow
        split at hrow
        · rename_i hi
          rw [List.getElem?_drop] at hrow
          obtain ⟨hrl, hrc⟩ := hr _ row hrow
          obtain ⟨v, hv, hvr⟩ := hrc j _ hu2
          rw [hvr.lit_inv] at hv
          have hj : j < sz' := by rw [← hrl]; exact (List.getElem?_eq_some_iff.1 hu2).1
          have h1 : i * sz' + sz' ≤ len * sz' := by rw [← Nat.succ_mul]; exact Nat.mul_le_mul_right _ hi
          rw [List.getElem?_take, if_pos (by omega), List.getElem?_drop]
          have e2 : lo * sz' + (i * sz' + j) = (lo + i) * sz' + j := by rw [Nat.add_mul]; omega
          rw [e2]
          simpa using hv
        · cases hrow
  · exact h.elim

theorem run_runesToString (a : Addr) (len cap : Nat) (ns : List Int) (h : (loadCells a len).run P w = .ok (ns.map (Value.int .i32)).toArray w) :
    (Conv.runesToString (.slice (some a) len cap)).run P w = .ok (.string (ns.foldl (fun r n => r ++ Utf8.encode n) ByteArray.empty)) w := by
  have key : ∀ (f : Value → ByteArray → Sem (ForInStep ByteArray)) (_ : ∀ (n : Int) (r : ByteArray), (f (.int .i32 n) r).run P w = .ok (.yield (r ++ Utf8.encode n)) w),
      ∀ (ns : List Int) (s : ByteArray), (forIn (ns.map (Value.int .i32)) s f).run P w = .ok (ns.foldl (fun r n => r ++ Utf8.encode n) s) w := by
    intro f hf ns
    induction ns with
    | nil => intro s; simp [Sem.run_pure]
    | cons n ns ih =>
      intro s
      simp only [List.map_cons, List.forIn_cons, Sem.run_bind, hf, Result.andThen, List.foldl_cons]
      exact ih _
  unfold Conv.runesToString
  simp only [Sem.run_bind, h, Result.andThen, List.forIn_toArray]
  rw [key _ (by intro n r; simp [Sem.run_pure])]
  simp [Sem.run_pure]

theorem bytes_fold (l : List UInt8) : ∀ s : ByteArray, (l.map fun b => (b.toNat : Int)).foldl (fun r n => r.push (UInt8.ofNat n.toNat)) s = ⟨s.data ++ l.toArray⟩ := by
  induction l with
  | nil => intro s; simp
  | cons b l ih =>
    intro s
    simp only [List.map_cons, List.foldl_cons, ih]
    congr 1
    simp [ByteArray.push]

theorem freeze_heap_ne (a : Addr) (n b : Nat) (h : a.block ≠ b) : (w.freeze a n).heap[b]? = w.heap[b]? := by
  unfold World.freeze
  split
  · rfl
  · simp [Array.getElem?_modify, h]

theorem bytes_world_new (e : TypeId) (s : ByteArray) : NewBlock w (Lib.bytesWorld w e s) (Lib.bytesCells w e s) e := by
  refine ⟨⟨_, Lib.bytesWorld_at_new w e s⟩, ?_, fun b hb => Lib.bytesWorld_at_old w e s b hb, Lib.bytesWorld_size w e s, ?_, ?_, ?_⟩
  · refine ⟨?_, fun cs2 e2 lo hi hh => ?_⟩
    · intro off ho
      simp only [World.frozen?, Lib.bytesWorld_at_new]
      simp; omega
    · rw [Lib.bytesWorld_at_new] at hh
      injection hh with hh
      injection hh with h1 h2 h3
      injection h3 with h3 h4
      omega
  all_goals
    unfold Lib.bytesWorld World.freeze
    split <;> rfl

theorem bytes_rows (e : TypeId) (s : ByteArray) : RowsIn X w (Lib.bytesCells w e s) 1 (bytesR s.data.toList) := by
  intro i row h
  obtain ⟨h1, h2⟩ := bytesR_rows (X := X) (w := w) i row h
  refine ⟨h1, fun j t ht => ?_⟩
  obtain ⟨v, hv, rest⟩ := h2 j t ht
  refine ⟨v, ?_, rest⟩
  unfold Lib.bytesCells
  have hlt : i * 1 + j < s.data.size := by
    have := (Array.getElem?_eq_some_iff.1 hv).1
    simpa using this
  rw [Array.getElem?_append_left (by simpa using hlt)]
  simpa using hv

/-- The mark of a conversion changes nothing that is told. -/
theorem StepOk.mark (hm : MRel X W pl w m) {j b sz n cap : Nat} {cs : Array Value} {e : TypeId} {fr : Nat × Nat} (hp0 : pl j = some (.tok b sz n cap)) (hg : m.get j = some (.tok sz n)) (hnc : n ≤ cap)
    (hh : w.heap[b]? = some (.cells cs e fr)) (hu : unfrozen w b cs.size) (hcs : cs.size = cap * sz) (id : Option Nat) {t : T} {v : Value} (hv : VRel X pl w t v) :
    StepOk X W pl w id m t v (w.freeze ⟨b, cs.size, none⟩ 1) := by
  have hlt : b < w.heap.size := (hm.placed j _ b hp0 rfl).2
  have hne : ∀ b', b' ≠ b → (w.freeze ⟨b, cs.size, none⟩ 1).heap[b']? = w.heap[b']? := fun b' h => freeze_heap_ne _ _ _ (Ne.symm h)
  have hhb : ∃ fr', (w.freeze ⟨b, cs.size, none⟩ 1).heap[b]? = some (.cells cs e fr') ∧ (fr' = if fr.1 = fr.2 then (cs.size, cs.size + 1) else (min fr.1 cs.size, max fr.2 (cs.size + 1))) := by
    obtain ⟨lo, hi⟩ := fr
    refine ⟨_, ?_, rfl⟩
    simp only [World.freeze, Nat.one_ne_zero, if_false, Array.getElem?_modify, if_true, hh, Option.map_some]
    congr 2
    by_cases e3 : lo = hi <;> simp [e3]
  obtain ⟨fr', hh', hfr⟩ := hhb
  have hsize : (w.freeze ⟨b, cs.size, none⟩ 1).heap.size = w.heap.size := by simp [World.freeze]
  have hcell : ∀ a, (w.freeze ⟨b, cs.size, none⟩ 1).cell? a = w.cell? a := by
    intro a
    by_cases e3 : a.block = b
    · simp only [World.cell?, e3, hh, hh']
    · simp only [World.cell?, hne _ e3]
  have hle : fr.1 ≤ fr.2 := hu.2 cs e fr.1 fr.2 hh
  have hu' : unfrozen (w.freeze ⟨b, cs.size, none⟩ 1) b cs.size := by
    refine ⟨fun off ho => ?_, fun cs2 e2 lo hi h2 => ?_⟩
    · have h1 := hu.1 off ho
      simp only [World.frozen?, hh, hh'] at h1 ⊢
      rw [hfr]
      split
      · simp; omega
      · rename_i hnn
        have h3 : cs.size ≤ fr.1 := by
          apply Decidable.byContradiction
          intro h4
          have := hu.1 fr.1 (by omega)
          simp only [World.frozen?, hh] at this
          simp at this
          omega
        simp; omega
    · rw [hh'] at h2
      injection h2 with h2
      injection h2 with h3 h4 h5
      rw [hfr] at h5
      split at h5
      · injection h5 with h5 h6; omega
      · injection h5 with h5 h6; omega
  have hx : XMono X X w (w.freeze ⟨b, cs.size, none⟩ 1) := fun b' off h => ⟨h, hcell _⟩
  have hp : PMono pl pl w (w.freeze ⟨b, cs.size, none⟩ 1) := by
    intro i li hi
    refine ⟨⟨li, hi, li.le_refl⟩, ?_⟩
    rintro b' sz2 rfl _ n2 hr
    have hb : b' ≠ b := by
      intro e3
      subst e3
      have := hm.apart i j _ _ b' hi hp0 rfl rfl
      subst this
      rw [hp0] at hi; cases hi
    exact roomy_of_heap (hne b' hb) hr
  refine ⟨X, pl, hx, hp, fun _ _ h => h, ⟨by rw [hsize]; exact Nat.le_refl _, by unfold World.freeze; split <;> rfl, by unfold World.freeze; split <;> rfl, by unfold World.freeze; split <;> rfl, fun b' _ hW => ?_⟩, ?_, hv.mono hx hp, fun _ _ h => .inl h⟩
  · refine hne b' fun e3 => hW ?_
    subst e3; exact (hm.placed j _ b' hp0 rfl).1
  · constructor
    · intro i blk hi
      by_cases e3 : i = j
      · subst e3
        rw [hg] at hi
        obtain rfl := Option.some.inj hi
        exact ⟨_, hp0, .inr ⟨b, cap, rfl, hnc, cs, e, fr', hh', hu', hcs⟩⟩
      · obtain ⟨li, hli, hbi⟩ := hm.blk i blk hi
        refine ⟨li, hli, hbi.mono hx hp fun b' hb' => hne b' fun e4 => e3 ?_⟩
        subst e4
        exact hm.apart i j li _ b' hli hp0 hb' rfl
    · intro i li b' hi hb'
      obtain ⟨h1, h2⟩ := hm.placed i li b' hi hb'
      exact ⟨h1, by rw [hsize]; exact h2⟩
    · exact hm.apart
    · intro b' off hxb
      obtain ⟨h1, h2⟩ := hm.xin b' off hxb
      exact ⟨by rw [hsize]; exact h1, h2⟩
    · exact hm.glob.mono hx

theorem convertA_ok (hm : MRel X W pl w m) {id : Nat} (hid : pl id = none) (hW : ∀ b, w.heap.size ≤ b → W b) (byref : Bool) {src dst : TypeId} {x : T} {vx : Value} (hx : VRel X pl w x vx)
    (K : T → Mem → Prop) (h : convertA P m id byref src dst x K) : OpOk P X W pl w (some id) (convert src dst vx) K := by
  unfold convertA at h
  split at h <;> try (exact h.elim)
  rename_i s d hs hd
  have pure_ : ∀ {t : T} {v : Value}, (convert src dst vx).run P w = .ok v w → K t m → VRel X pl w t v → OpOk P X W pl w (some id) (convert src dst vx) K :=
    fun hr hK hv => ⟨_, _, _, _, hr, hK, .same hm _ hv⟩
  split at h
  · obtain rfl := hx.lit_inv
    exact pure_ (by simp [convert, run_underlying hs, run_underlying hd, Conv.intToInt]) h (.lit _)
  · obtain rfl := hx.lit_inv
    refine pure_ ?_ h (.lit _)
    unfold convert
    simp only [Sem.run_bind, run_underlying hs, run_underlying hd, Result.andThen_ok]
    cases s <;> simp
  · obtain rfl := hx.lit_inv
    refine pure_ ?_ h (.lit _)
    unfold convert
    simp only [Sem.run_bind, run_underlying hs, run_underlying hd, Result.andThen_ok]
    cases s <;> simp [Conv.intToString]
  · split at h <;> try (exact h.elim)
    rename_i v _ _ _ e hn
    obtain rfl := isNilSl_eq hn
    obtain rfl := hx.lit_inv
    split at h
    · rename_i he
      exact pure_ (by simp [convert, run_underlying hs, run_underlying hd, run_underlying he, Conv.bytesToString]) h (.lit _)
    · rename_i he
      exact pure_ (by simp [convert, run_underlying hs, run_underlying hd, run_underlying he, Conv.runesToString]) h (.lit _)
    · exact h.elim
  · split at h <;> try (exact h.elim)
    rename_i e
    split at h
    · rename_i he
      obtain ⟨sz, rows, a, cap, ⟨l, ⟨rfl, rfl⟩, hK⟩, rfl, hc⟩ := rows_cells hm hx h
      refine pure_ ?_ hK (.lit _)
      rw [run_convert_bytes_string w src dst e a _ cap hs he hd]
      rcases hc with h0 | ⟨b, o, cs, rfl, hcl, hc1, hc2⟩
      · have : l = [] := by simpa [bytesR] using h0
        subst this
        cases a with
        | none => simp [Conv.bytesToString, bytesR]; rfl
        | some ad =>
          have := run_bytesToString (P := P) w ad 0 cap [] (by simp [loadCells, loadCellsFrom])
          simp [bytesR] at this ⊢
          exact this
      · have hload := run_loadCells_list (P := P) w ⟨b, o, none⟩ cs (fun j v hj => by rw [Addr.add_lit]; exact hc1 j v hj)
        have hcs : cs = (l.map fun b => (b.toNat : Int)).map (Value.int .u8) := by
          apply List.ext_getElem?
          intro k
          cases hk : l[k]? with
          | none =>
            have h1 : l.length ≤ k := by simpa using hk
            have h2 : cs.length ≤ k := by rw [hcl]; simp [bytesR]; exact h1
            simp [hk, h2]
          | some y =>
            have := hc2 k [.lit (.int .u8 y.toNat)] (by simp [bytesR, hk]) 0 (.int .u8 y.toNat) rfl
            simp at this
            rw [this]; simp [hk]
        rw [hcl, Nat.mul_one] at hload
        rw [hcs] at hload
        rw [run_bytesToString (P := P) w ⟨b, o, none⟩ _ cap _ hload, bytes_fold]
        simp
    · rename_i he
      obtain ⟨sz, rows, a, cap, ⟨l, ⟨rfl, rfl⟩, hK⟩, rfl, hc⟩ := rows_cells hm hx h
      refine pure_ ?_ hK (.lit _)
      have hconv : ∀ a n c, (convert src dst (.slice a n c)).run P w = (Conv.runesToString (.slice a n c)).run P w := by
        intro a n c
        simp [convert, run_underlying hs, run_underlying hd, run_underlying he]
      rw [hconv]
      rcases hc with h0 | ⟨b, o, cs, rfl, hcl, hc1, hc2⟩
      · have : l = [] := by simpa [runesR] using h0
        subst this
        cases a with
        | none => simp [Conv.runesToString, runesR]
        | some ad =>
          have := run_runesToString (P := P) (w := w) ad 0 cap [] (by simp [loadCells, loadCellsFrom])
          simpa [runesR] using this
      · have hload := run_loadCells_list (P := P) w ⟨b, o, none⟩ cs (fun j v hj => by rw [Addr.add_lit]; exact hc1 j v hj)
        have hcs : cs = l.map (Value.int .i32) := by
          apply List.ext_getElem?
          intro k
          cases hk : l[k]? with
          | none =>
            have h1 : l.length ≤ k := by simpa using hk
            have h2 : cs.length ≤ k := by rw [hcl]; simp [runesR]; exact h1
            simp [hk, h2]
          | some y =>
            have := hc2 k [.lit (.int .i32 y)] (by simp [runesR, hk]) 0 (.int .i32 y) rfl
            simp at this
            rw [this]; simp [hk]
        rw [hcl, Nat.mul_one] at hload
        rw [hcs] at hload
        rw [run_runesToString (P := P) (w := w) ⟨b, o, none⟩ _ cap _ hload]
    · exact h.elim
  · rename_i e s2
    split at h <;> try (exact h.elim)
    rename_i he
    obtain rfl := hx.lit_inv
    have hr := Lib.run_convert_string_bytes (P := P) w src dst e s2 hs hd he
    have hge := grownCap_ge w s2.size 0 e
    have hcs : (Lib.bytesCells w e s2).size = grownCap w s2.size 0 e := by
      unfold Lib.bytesCells
      have : s2.data.size = s2.size := rfl
      simp [this]; omega
    have hlen : (bytesR s2.data.toList).length = s2.size := by simp [bytesR]
    cases byref with
    | false =>
      simp only [memF_eq] at h
      have hst := StepOk.tok (id := id) hm hW _ e (bytes_world_new e s2) 1 (grownCap w s2.size 0 e) (bytesR s2.data.toList) (by rw [hcs]; simp) (by rw [hlen]; exact hge) (bytes_rows e s2)
        (fun l hl => by rw [hid] at hl; cases hl)
      rw [hlen] at hst
      exact ⟨_, _, _, _, hr, h, hst⟩
    | true =>
      simp only [memF_eq] at h
      refine ⟨_, _, _, _, hr, h, StepOk.ownN hm hid hW _ e (bytes_world_new e s2) 1 _ (by rw [hlen, hcs]; omega) (rowsIn_vrel (bytes_rows e s2) ?_) ?_⟩
      · intro i row j t hr2 ht
        simp only [bytesR, List.getElem?_map] at hr2
        cases e3 : s2.data.toList[i]? with
        | none => simp [e3] at hr2
        | some y =>
          simp [e3] at hr2
          subst hr2
          cases j with
          | zero => simp at ht; subst ht; rfl
          | succ j => simp at ht
      · obtain ⟨fr, hnew⟩ := (bytes_world_new (w := w) e s2).new
        have := VRel.sref (X := X) (pl := upd pl id (.own w.heap.size 1)) (w := Lib.bytesWorld w e s2) id 0 s2.size w.heap.size 1 (grownCap w s2.size 0 e) (.inl (upd_same _ _ _)) hge
          fun _ => ⟨_, _, _, hnew, by rw [hcs]; simp⟩
        simpa using this
  · rename_i e j sz rows
    split at h <;> try (exact h.elim)
    rename_i he
    have hsd : src = dst := Nat.eq_of_beq_eq_true (chk_elim h).1
    replace h := (chk_elim h).2
    split at h <;> try (exact h.elim)
    rename_i sz' n hg
    obtain ⟨hn, hn0, h⟩ := h
    obtain ⟨l, hl, hbk⟩ := hm.blk j _ hg
    obtain ⟨ad, cap0, rfl, hcap0, hrows, htok⟩ := sl_inv hx
    obtain ⟨l', hl', htk⟩ := htok j rfl
    rw [hl] at hl'
    obtain rfl := Option.some.inj hl'
    rcases hbk with ⟨rfl, hr0⟩ | ⟨b, cap, rfl, hnc, cs, ee, fr, hh, huf, hcs⟩
    · omega
    · obtain ⟨_, _, hv⟩ := htk
      have hv := hv hn
      injection hv with h1 h2 h3
      subst h1
      have hshape : w.shape? b = some (ee, cs.size) := by simp [World.shape?, hh]
      refine ⟨_, _, _, _, ?_, h, StepOk.mark hm hl hg hnc hh huf hcs _ hx⟩
      have hbq : (src == dst) = true := by simp [hsd]
      rw [← hsd] at hd
      have hse : s = .slice e := by rw [hs] at hd; exact Option.some.inj hd
      subst hse
      simp [convert, run_underlying hs, ← hsd, run_underlying he, markStringish, hshape, Result.andThen]
  · exact h.elim

end
end Go.AW
