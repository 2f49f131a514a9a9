import Derived.Test.YtmobiphgmdigjaaAw15
import Derived.ChangeMaps4
import Derived.ChangeKeysEq
/- Soundness: conversions. -/
set_option linter.unusedVariables false
set_option linter.unusedSimpArgs false
namespace Go.AW
open Go

section
variable {P : Program} {X X' : Xs} {W : Nat → Prop} {pl : Pl} {w w' : World} {m : Mem}

theorem rows_cells (hm : MRel X W pl w m) {x : T} {v : Value} (hx : VRel X pl w x v) {K : Nat → List (List T) → Prop} (h : rowsOf m x K) :
    ∃ sz rows a cap, K sz rows ∧ v = .slice a rows.length cap ∧ (rows = [] ∨ ∃ b o, ∃ cs : List Value, a = some ⟨b, o, none⟩ ∧ cs.length = rows.length * sz ∧
      (∀ (j : Nat) (u : Value), cs[j]? = some u → w.cell? ⟨b, o + j, none⟩ = some u) ∧
      ∀ (i : Nat) (row : List T), rows[i]? = some row → ∀ (j : Nat) (u : Value), row[j]? = some (.lit u) → cs[i * sz + j]? = some u) := by
  unfold rowsOf at h
  split at h
  · rename_i tok sz rows
    obtain ⟨a, cap, rfl, hcap, hrows, _⟩ := sl_inv hx
    obtain ⟨cs, hcl, hri, hmem⟩ := flat_of_sl hrows
    refine ⟨sz, rows, a, cap, h, rfl, ?_⟩
    rcases hmem with rfl | ⟨b, o, rfl, hmem⟩
    · exact .inl rfl
    · refine .inr ⟨b, o, cs, rfl, hcl, hmem, ?_⟩
      intro i row hrow j u hu
      obtain ⟨u2, hu2, hb, _⟩ := (hri i row hrow).2 j _ hu
      rw [hb.lit_inv] at hu2
      simpa using hu2
  · rename_i id lo len
    split at h <;> try (exact h.elim)
    rename_i sz rows hg
    obtain ⟨hle, hK⟩ := h
    have hlen : ((rows.drop lo).take len).length = len := by simp; omega
    cases hx with
    | srefn _ hp => exact ⟨sz, _, none, 0, hK, by simp, .inl (by simp)⟩
    | srefz _ _ b sz' a hp => exact ⟨sz, _, a, 0, hK, by simp, .inl (by simp)⟩
    | sref _ _ _ b sz' cap hp hl2 hroom =>
      replace hp := own_pl hm hg hp
      obtain ⟨rfl, cs, e, fr, hh, hu, hlen2, hr⟩ := own_get hm hg hp
      have hb1 : (lo + len) * sz' ≤ rows.length * sz' := Nat.mul_le_mul_right _ hle
      have hb2 := hb1
      rw [Nat.add_mul] at hb2
      refine ⟨sz', _, some ⟨b, lo * sz', none⟩, cap, hK, by rw [hlen], .inr ⟨b, lo * sz', (cs.toList.drop (lo * sz')).take (len * sz'), rfl, ?_, ?_, ?_⟩⟩
      · rw [hlen]; simp; omega
      · intro j u hj
        rw [List.getElem?_take] at hj
        split at hj
        · rw [List.getElem?_drop] at hj
          rw [cell_of_row w b _ cs e fr hh]
          simpa using hj
        · cases hj
      · intro i row hrow j u hu2
        rw [List.getElem?_take] at hrow
        split at hrow
        · rename_i hi
          rw [List.getElem?_drop] at hrow
          obtain ⟨hrl, hrc⟩ := hr _ row hrow
          obtain ⟨v, hv, hvr⟩ := hrc j _ hu2
          rw [hvr.lit_inv] at hv
          have hj : j < sz' := by rw [← hrl]; exact (List.getElem?_eq_some_iff.1 hu2).1
          have h1 : i * sz' + sz' ≤ len * sz' := by rw [← Nat.succ_mul]; exact Nat.mul_le_mul_right _ hi
          rw [List.getElem?_take, if_pos (by omega), List.getElem?_drop]
          have e2 : lo * sz' + (i * sz' + j) = (lo + i) * sz' + j := by rw [Nat.add_mul]; omega
          rw [e2]
          simpa using hv
        · cases hrow
  · exact h.elim

theorem run_runesToString (a : Addr) (len cap : Nat) (ns : List Int) (h : (loadCells a len).run P w = .ok (ns.map (Value.int .i32)).toArray w) :
    (Conv.runesToString (.slice (some a) len cap)).run P w = .ok (.string (ns.foldl (fun r n => r ++ Utf8.encode n) ByteArray.empty)) w := by
  have key : ∀ (f : Value → ByteArray → Sem (ForInStep ByteArray)) (_ : ∀ (n : Int) (r : ByteArray), (f (.int .i32 n) r).run P w = .ok (.yield (r ++ Utf8.encode n)) w),
      ∀ (ns : List Int) (s : ByteArray), (forIn (ns.map (Value.int .i32)) s f).run P w = .ok (ns.foldl (fun r n => r ++ Utf8.encode n) s) w := by
    intro f hf ns
    induction ns with
    | nil => intro s; simp [Sem.run_pure]
    | cons n ns ih =>
      intro s
      simp only [List.map_cons, List.forIn_cons, Sem.run_bind, hf, Result.andThen, List.foldl_cons]
      exact ih _
  unfold Conv.runesToString
  simp only [Sem.run_bind, h, Result.andThen, List.forIn_toArray]
  rw [key _ (by intro n r; simp [Sem.run_pure])]
  simp [Sem.run_pure]

theorem bytes_fold (l : List UInt8) : ∀ s : ByteArray, (l.map fun b => (b.toNat : Int)).foldl (fun r n => r.push (UInt8.ofNat n.toNat)) s = ⟨s.data ++ l.toArray⟩ := by
  induction l with
  | nil => intro s; simp
  | cons b l ih =>
    intro s
    simp only [List.map_cons, List.foldl_cons, ih]
    congr 1
    simp [ByteArray.push]

theorem freeze_heap_ne (a : Addr) (n b : Nat) (h : a.block ≠ b) : (w.freeze a n).heap[b]? = w.heap[b]? := by
  unfold World.freeze
  split
  · rfl
  · simp [Array.getElem?_modify, h]

theorem bytes_world_new (e : TypeId) (s : ByteArray) : NewBlock w (Lib.bytesWorld w e s) (Lib.bytesCells w e s) e := by
  refine ⟨⟨_, Lib.bytesWorld_at_new w e s⟩, ?_, fun b hb => Lib.bytesWorld_at_old w e s b hb, Lib.bytesWorld_size w e s, ?_, ?_, ?_⟩
  · refine ⟨?_, fun cs2 e2 lo hi hh => ?_⟩
    · intro off ho
      simp only [World.frozen?, Lib.bytesWorld_at_new]
      simp; omega
    · rw [Lib.bytesWorld_at_new] at hh
      injection hh with hh
      injection hh with h1 h2 h3
      injection h3 with h3 h4
      omega
  all_goals
    unfold Lib.bytesWorld World.freeze
    split <;> rfl

theorem bytes_rows (e : TypeId) (s : ByteArray) : RowsIn X w (Lib.bytesCells w e s) 1 (bytesR s.data.toList) := by
  intro i row h
  obtain ⟨h1, h2⟩ := bytesR_rows (X := X) (w := w) i row h
  refine ⟨h1, fun j t ht => ?_⟩
  obtain ⟨v, hv, rest⟩ := h2 j t ht
  refine ⟨v, ?_, rest⟩
  unfold Lib.bytesCells
  have hlt : i * 1 + j < s.data.size := by
    have := (Array.getElem?_eq_some_iff.1 hv).1
    simpa using this
  rw [Array.getElem?_append_left (by simpa using hlt)]
  simpa using hv

/-- The mark of a conversion changes nothing that is told. -/
theorem StepOk.mark (hm : MRel X W pl w m) {j b sz n cap : Nat} {cs : Array Value} {e : TypeId} {fr : Nat × Nat} (hp0 : pl j = some (.tok b sz n cap)) (hg : m.get j = some (.tok sz n)) (hnc : n ≤ cap)
    (hh : w.heap[b]? = some (.cells cs e fr)) (hu : unfrozen w b cs.size) (hcs : cs.size = cap * sz) (id : Option Nat) {t : T} {v : Value} (hv : VRel X pl w t v) :
    StepOk X W pl w id m t v (w.freeze ⟨b, cs.size, none⟩ 1) := by
  have hlt : b < w.heap.size := (hm.placed j _ b hp0 rfl).2
  have hne : ∀ b', b' ≠ b → (w.freeze ⟨b, cs.size, none⟩ 1).heap[b']? = w.heap[b']? := fun b' h => freeze_heap_ne _ _ _ (Ne.symm h)
  have hhb : ∃ fr', (w.freeze ⟨b, cs.size, none⟩ 1).heap[b]? = some (.cells cs e fr') ∧ (fr' = if fr.1 = fr.2 then (cs.size, cs.size + 1) else (min fr.1 cs.size, max fr.2 (cs.size + 1))) := by
    obtain ⟨lo, hi⟩ := fr
    refine ⟨_, ?_, rfl⟩
    simp only [World.freeze, Nat.one_ne_zero, if_false, Array.getElem?_modify, if_true, hh, Option.map_some]
    congr 2
    by_cases e3 : lo = hi <;> simp [e3]
  obtain ⟨fr', hh', hfr⟩ := hhb
  have hsize : (w.freeze ⟨b, cs.size, none⟩ 1).heap.size = w.heap.size := by simp [World.freeze]
  have hcell : ∀ a, (w.freeze ⟨b, cs.size, none⟩ 1).cell? a = w.cell? a := by
    intro a
    by_cases e3 : a.block = b
    · simp only [World.cell?, e3, hh, hh']
    · simp only [World.cell?, hne _ e3]
  have hle : fr.1 ≤ fr.2 := hu.2 cs e fr.1 fr.2 hh
  have hu' : unfrozen (w.freeze ⟨b, cs.size, none⟩ 1) b cs.size := by
    refine ⟨fun off ho => ?_, fun cs2 e2 lo hi h2 => ?_⟩
    · have h1 := hu.1 off ho
      simp only [World.frozen?, hh, hh'] at h1 ⊢
      rw [hfr]
      split
      · simp; omega
      · rename_i hnn
        have h3 : cs.size ≤ fr.1 := by
          apply Decidable.byContradiction
          intro h4
          have := hu.1 fr.1 (by omega)
          simp only [World.frozen?, hh] at this
          simp at this
          omega
        simp; omega
    · rw [hh'] at h2
      injection h2 with h2
      injection h2 with h3 h4 h5
      rw [hfr] at h5
      split at h5
      · injection h5 with h5 h6; omega
      · injection h5 with h5 h6; omega
  have hx : XMono X X w (w.freeze ⟨b, cs.size, none⟩ 1) := fun b' off h => ⟨h, hcell _⟩
  have hp : PMono pl pl w (w.freeze ⟨b, cs.size, none⟩ 1) := by
    intro i li hi
    refine ⟨⟨li, hi, li.le_refl⟩, ?_⟩
    rintro b' sz2 rfl _ n2 hr
    have hb : b' ≠ b := by
      intro e3
      subst e3
      have := hm.apart i j _ _ b' hi hp0 rfl rfl
      subst this
      rw [hp0] at hi; cases hi
    exact roomy_of_heap (hne b' hb) hr
  refine ⟨X, pl, hx, hp, fun _ _ h => h, ⟨by rw [hsize]; exact Nat.le_refl _, by unfold World.freeze; split <;> rfl, by unfold World.freeze; split <;> rfl, by unfold World.freeze; split <;> rfl, fun b' _ hW => ?_⟩, ?_, hv.mono hx hp, fun _ _ h => .inl h⟩
  · refine hne b' fun e3 => hW ?_
    subst e3; exact (hm.placed j _ b' hp0 rfl).1
  · constructor
    · intro i blk hi
      by_cases e3 : i = j
      · subst e3
        rw [hg] at hi
        obtain rfl := Option.some.inj hi
        exact ⟨_, hp0, .inr ⟨b, cap, rfl, hnc, cs, e, fr', hh', hu', hcs⟩⟩
      · obtain ⟨li, hli, hbi⟩ := hm.blk i blk hi
        refine ⟨li, hli, hbi.mono hx hp fun b' hb' => hne b' fun e4 => e3 ?_⟩
        subst e4
        exact hm.apart i j li _ b' hli hp0 hb' rfl
    · intro i li b' hi hb'
      obtain ⟨h1, h2⟩ := hm.placed i li b' hi hb'
      exact ⟨h1, by rw [hsize]; exact h2⟩
    · exact hm.apart
    · intro b' off hxb
      obtain ⟨h1, h2⟩ := hm.xin b' off hxb
      exact ⟨by rw [hsize]; exact h1, h2⟩
    · exact hm.glob.mono hx

theorem convertA_ok (hm : MRel X W pl w m) {id : Nat} (hid : pl id = none) (hW : ∀ b, w.heap.size ≤ b → W b) (byref : Bool) {src dst : TypeId} {x : T} {vx : Value} (hx : VRel X pl w x vx)
    (K : T → Mem → Prop) (h : convertA P m id byref src dst x K) : OpOk P X W pl w (some id) (convert src dst vx) K := by
  unfold convertA at h
  split at h <;> try (exact h.elim)
  rename_i s d hs hd
  have pure_ : ∀ {t : T} {v : Value}, (convert src dst vx).run P w = .ok v w → K t m → VRel X pl w t v → OpOk P X W pl w (some id) (convert src dst vx) K :=
    fun hr hK hv => ⟨_, _, _, _, hr, hK, .same hm _ hv⟩
  split at h
  · obtain rfl := hx.lit_inv
    exact pure_ (by simp [convert, run_underlying hs, run_underlying hd, Conv.intToInt]) h (.lit _)
  · obtain rfl := hx.lit_inv
    refine pure_ ?_ h (.lit _)
    unfold convert
    simp only [Sem.run_bind, run_underlying hs, run_underlying hd, Result.andThen_ok]
    cases s <;> simp
  · obtain rfl := hx.lit_inv
    refine pure_ ?_ h (.lit _)
    unfold convert
    simp only [Sem.run_bind, run_underlying hs, run_underlying hd, Result.andThen_ok]
    cases s <;> simp [Conv.intToString]
  · split at h <;> try (exact h.elim)
    rename_i v _ _ _ e hn
    obtain rfl := isNilSl_eq hn
    obtain rfl := hx.lit_inv
    split at h
    · rename_i he
      exact pure_ (by simp [convert, run_underlying hs, run_underlying hd, run_underlying he, Conv.bytesToString]) h (.lit _)
    · rename_i he
      exact pure_ (by simp [convert, run_underlying hs, run_underlying hd, run_underlying he, Conv.runesToString]) h (.lit _)
    · exact h.elim
  · split at h <;> try (exact h.elim)
    rename_i e
    split at h
    · rename_i he
      obtain ⟨sz, rows, a, cap, ⟨l, ⟨rfl, rfl⟩, hK⟩, rfl, hc⟩ := rows_cells hm hx h
      refine pure_ ?_ hK (.lit _)
      rw [run_convert_bytes_string w src dst e a _ cap hs he hd]
      rcases hc with h0 | ⟨b, o, cs, rfl, hcl, hc1, hc2⟩
      · have : l = [] := by simpa [bytesR] using h0
        subst this
        cases a with
        | none => simp [Conv.bytesToString, bytesR]; rfl
        | some ad =>
          have := run_bytesToString (P := P) w ad 0 cap [] (by simp [loadCells, loadCellsFrom])
          simp [bytesR] at this ⊢
          exact this
      · have hload := run_loadCells_list (P := P) w ⟨b, o, none⟩ cs (fun j v hj => by rw [Addr.add_lit]; exact hc1 j v hj)
        have hcs : cs = (l.map fun b => (b.toNat : Int)).map (Value.int .u8) := by
          apply List.ext_getElem?
          intro k
          cases hk : l[k]? with
          | none =>
            have h1 : l.length ≤ k := by simpa using hk
            have h2 : cs.length ≤ k := by rw [hcl]; simp [bytesR]; exact h1
            simp [hk, h2]
          | some y =>
            have := hc2 k [.lit (.int .u8 y.toNat)] (by simp [bytesR, hk]) 0 (.int .u8 y.toNat) rfl
            simp at this
            rw [this]; simp [hk]
        rw [hcl, Nat.mul_one] at hload
        rw [hcs] at hload
        rw [run_bytesToString (P := P) w ⟨b, o, none⟩ _ cap _ hload, bytes_fold]
        simp
    · rename_i he
      obtain ⟨sz, rows, a, cap, ⟨l, ⟨rfl, rfl⟩, hK⟩, rfl, hc⟩ := rows_cells hm hx h
      refine pure_ ?_ hK (.lit _)
      have hconv : ∀ a n c, (convert src dst (.slice a n c)).run P w = (Conv.runesToString (.slice a n c)).run P w := by
        intro a n c
        simp [convert, run_underlying hs, run_underlying hd, run_underlying he]
      rw [hconv]
      rcases hc with h0 | ⟨b, o, cs, rfl, hcl, hc1, hc2⟩
      · have : l = [] := by simpa [runesR] using h0
        subst this
        cases a with
        | none => simp [Conv.runesToString, runesR]
        | some ad =>
          have := run_runesToString (P := P) (w := w) ad 0 cap [] (by simp [loadCells, loadCellsFrom])
          simpa [runesR] using this
      · have hload := run_loadCells_list (P := P) w ⟨b, o, none⟩ cs (fun j v hj => by rw [Addr.add_lit]; exact hc1 j v hj)
        have hcs : cs = l.map (Value.int .i32) := by
          apply List.ext_getElem?
          intro k
          cases hk : l[k]? with
          | none =>
            have h1 : l.length ≤ k := by simpa using hk
            have h2 : cs.length ≤ k := by rw [hcl]; simp [runesR]; exact h1
            simp [hk, h2]
          | some y =>
            have := hc2 k [.lit (.int .i32 y)] (by simp [runesR, hk]) 0 (.int .i32 y) rfl
            simp at this
            rw [this]; simp [hk]
        rw [hcl, Nat.mul_one] at hload
        rw [hcs] at hload
        rw [run_runesToString (P := P) (w := w) ⟨b, o, none⟩ _ cap _ hload]
    · exact h.elim
  · rename_i e s2
    split at h <;> try (exact h.elim)
    rename_i he
    obtain rfl := hx.lit_inv
    have hr := Lib.run_convert_string_bytes (P := P) w src dst e s2 hs hd he
    have hge := grownCap_ge w s2.size 0 e
    have hcs : (Lib.bytesCells w e s2).size = grownCap w s2.size 0 e := by
      unfold Lib.bytesCells
      have : s2.data.size = s2.size := rfl
      simp [this]; omega
    have hlen : (bytesR s2.data.toList).length = s2.size := by simp [bytesR]
    cases byref with
    | false =>
      simp only [memF_eq] at h
      have hst := StepOk.tok (id := id) hm hW _ e (bytes_world_new e s2) 1 (grownCap w s2.size 0 e) (bytesR s2.data.toList) (by rw [hcs]; simp) (by rw [hlen]; exact hge) (bytes_rows e s2)
        (fun l hl => by rw [hid] at hl; cases hl)
      rw [hlen] at hst
      exact ⟨_, _, _, _, hr, h, hst⟩
    | true =>
      simp only [memF_eq] at h
      refine ⟨_, _, _, _, hr, h, StepOk.ownN hm hid hW _ e (bytes_world_new e s2) 1 _ (by rw [hlen, hcs]; omega) (rowsIn_vrel (bytes_rows e s2) ?_) ?_⟩
      · intro i row j t hr2 ht
        simp only [bytesR, List.getElem?_map] at hr2
        cases e3 : s2.data.toList[i]? with
        | none => simp [e3] at hr2
        | some y =>
          simp [e3] at hr2
          subst hr2
          cases j with
          | zero => simp at ht; subst ht; rfl
          | succ j => simp at ht
      · obtain ⟨fr, hnew⟩ := (bytes_world_new (w := w) e s2).new
        have := VRel.sref (X := X) (pl := upd pl id (.own w.heap.size 1)) (w := Lib.bytesWorld w e s2) id 0 s2.size w.heap.size 1 (grownCap w s2.size 0 e) (.inl (upd_same _ _ _)) hge
          fun _ => ⟨_, _, _, hnew, by rw [hcs]; simp⟩
        simpa using this
  · rename_i e j sz rows
    split at h <;> try (exact h.elim)
    rename_i he
    have hsd : src = dst := Nat.eq_of_beq_eq_true (chk_elim h).1
    replace h := (chk_elim h).2
    split at h <;> try (exact h.elim)
    rename_i sz' n hg
    obtain ⟨hn, hn0, h⟩ := h
    obtain ⟨l, hl, hbk⟩ := hm.blk j _ hg
    obtain ⟨ad, cap0, rfl, hcap0, hrows, htok⟩ := sl_inv hx
    obtain ⟨l', hl', htk⟩ := htok j rfl
    rw [hl] at hl'
    obtain rfl := Option.some.inj hl'
    rcases hbk with ⟨rfl, hr0⟩ | ⟨b, cap, rfl, hnc, cs, ee, fr, hh, huf, hcs⟩
    · omega
    · obtain ⟨_, _, hv⟩ := htk
      have hv := hv hn
      injection hv with h1 h2 h3
      subst h1
      have hshape : w.shape? b = some (ee, cs.size) := by simp [World.shape?, hh]
      refine ⟨_, _, _, _, ?_, h, StepOk.mark hm hl hg hnc hh huf hcs _ hx⟩
      have hbq : (src == dst) = true := by simp [hsd]
      rw [← hsd] at hd
      have hse : s = .slice e := by rw [hs] at hd; exact Option.some.inj hd
      subst hse
      simp [convert, run_underlying hs, ← hsd, run_underlying he, markStringish, hshape, Result.andThen]
  · exact h.elim

end
end Go.AW

/- Soundness: ranges over strings. -/
set_option linter.unusedVariables false
set_option linter.unusedSimpArgs false
namespace Go.AW
open Go
open Go.ChangeMaps (setBlock)

section
variable {P : Program} {X X' : Xs} {W : Nat → Prop} {pl : Pl} {w w' : World} {m : Mem}

theorem upd_self {id : Nat} {l : Loc} (h : pl id = some l) : upd pl id l = pl := by
  funext i
  by_cases e : i = id
  · subst e; rw [upd_same, h]
  · rw [upd_other _ _ e]

theorem rangeA_ok (hm : MRel X W pl w m) {id : Nat} (hid : pl id = none) (hW : ∀ b, w.heap.size ≤ b → W b) {t : TypeId} {x : T} {vx : Value} (hx : VRel X pl w x vx)
    (K : T → Mem → Prop) (h : rangeA P m id t x K) : OpOk P X W pl w (some id) (Instr.range t vx) K := by
  unfold rangeA at h
  split at h <;> try (exact h.elim)
  rename_i hu
  split at h <;> try (exact h.elim)
  rename_i s
  obtain rfl := hx.lit_inv
  rw [memF_eq] at h
  have hxm := hm.xmono_alloc (.stringIter s 0)
  have hp := hm.pmono_alloc (.stringIter s 0) (.obj w.heap.size) hid
  have hrun : (Instr.range t (.string s)).run P w = .ok (.pointer (some ⟨w.heap.size, 0, none⟩)) (w.alloc (.stringIter s 0)) := by
    simp [Instr.range, run_underlying hu, newObj, Sem.run]
  refine ⟨_, _, _, _, hrun, h, X, upd pl id (.obj w.heap.size), hxm, hp, fun i hi hn => by rw [upd_other _ _ (fun e => hi (by rw [e]))]; exact hn, .alloc W w _, ?_, ?_, fun _ _ h => .inl h⟩
  · exact hm.alloc hid hW _ _ _ rfl ⟨_, rfl, heap_alloc_new w _⟩
  · exact .itr id _ (upd_same _ _ _)

theorem setBlock_other (w : World) (b b' : Nat) (o : Obj) (h : b' ≠ b) : (setBlock w b o).heap[b']? = w.heap[b']? := by
  simp only [setBlock]
  rw [Array.getElem?_setIfInBounds_ne (Ne.symm h)]

theorem nextA_ok (hm : MRel X W pl w m) (id' : Option Nat) (ty : TypeId) {isStr : Bool} {x : T} {vx : Value} (hx : VRel X pl w x vx)
    (K : T → Mem → Prop) (h : nextA m isStr x K) : OpOk P X W pl w id' (Instr.next vx isStr ty) K := by
  unfold nextA at h
  split at h <;> try (exact h.elim)
  split at h <;> try (exact h.elim)
  rename_i id
  split at h <;> try (exact h.elim)
  rename_i s pos hg
  cases hx with
  | itr _ b hp =>
    obtain ⟨l, hl, b', e, hh⟩ := hm.blk id _ hg
    rw [hp] at hl
    cases hl
    cases e
    have hlt : b < w.heap.size := (Array.getElem?_eq_some_iff.1 hh).1
    cases hd : decide (pos < s.size) with
    | false =>
      rw [hd] at h
      have hn := of_decide_eq_false hd
      have h : K (.tup [.lit (.bool false)]) m := h
      refine ⟨.tuple #[.bool false], _, _, _, ?_, h, .same hm id' ?_⟩
      · simp [Instr.next, getObj, Sem.run, hh, hn, Result.andThen]
      · exact .tup [.lit (.bool false)] [.bool false] rfl (by
          intro i t v ht hv
          cases i with
          | zero => cases ht; cases hv; exact .lit _
          | succ i => simp at ht)
    | true =>
      rw [hd] at h
      have hn := of_decide_eq_true hd
      simp only [memF_eq] at h
      let o' : Obj := .stringIter s (pos + (Utf8.decode s pos).2)
      have hnew : (setBlock w b o').heap[b]? = some o' := by
        simp only [setBlock]
        rw [Array.getElem?_setIfInBounds_self]
        simp [hlt]
      have hne : ∀ b2, b2 ≠ b → (setBlock w b o').heap[b2]? = w.heap[b2]? := fun b2 h2 => setBlock_other w b b2 o' h2
      have hxm : XMono X X w (setBlock w b o') := by
        intro b2 off hb
        have h2 : b2 ≠ b := (hm.xin b2 off hb).2 id _ hp
        exact ⟨hb, World.cell?_of_block (hne b2 h2)⟩
      have hpm : PMono pl pl w (setBlock w b o') := by
        intro i li hi
        refine ⟨⟨li, hi, li.le_refl⟩, ?_⟩
        rintro b2 sz rfl _ n hn2
        refine roomy_of_heap (hne b2 fun e => ?_) hn2
        subst e
        have := hm.apart i id _ _ b2 hi hp rfl rfl
        subst this
        rw [hi] at hp; cases hp
      have hsz : (setBlock w b o').heap.size = w.heap.size := by simp [setBlock]
      have hup := upd_self hp
      have hm' : MRel X W pl (setBlock w b o') (m.put id (.iter s (pos + (Utf8.decode s pos).2))) := by
        have := hm.update (X' := X) (id := id) (l := .obj b) (blk := .iter s (pos + (Utf8.decode s pos).2)) (w' := setBlock w b o') hxm (by rw [hup]; exact hpm)
          (fun i li b2 hi hli hb2 => hne b2 fun e => hi (by subst e; exact hm.apart i id li _ b2 hli hp hb2 rfl)) (by rw [hsz]; exact Nat.le_refl _)
          ⟨b, rfl, hnew⟩ (fun b2 hb2 => by
            cases hb2
            exact ⟨(hm.placed id _ b hp rfl).1, by rw [hsz]; exact hlt, fun i li hi hli hb2 => hi (hm.apart i id li _ b hli hp hb2 rfl)⟩)
          (fun b2 off hb => by
            obtain ⟨h1, h2⟩ := hm.xin b2 off hb
            exact ⟨by rw [hsz]; exact h1, h2 id _ hp, fun i li _ hli => h2 i li hli⟩)
        rw [hup] at this
        exact this
      refine ⟨.tuple #[.bool true, .int .i64 pos, .int .i32 (Utf8.decode s pos).1], _, _, setBlock w b o', ?_, h, X, pl, hxm, hpm, fun _ _ h => h, ⟨by rw [hsz]; exact Nat.le_refl _, rfl, rfl, rfl, ?_⟩, hm', ?_, fun _ _ h => .inl h⟩
      · simp [Instr.next, getObj, setObj, Sem.run, hh, hn, Result.andThen, goInt, setBlock, o']
      · intro b2 hb2 hW
        refine hne b2 fun e => hW ?_
        subst e
        exact (hm.placed id _ b2 hp rfl).1
      · exact .tup [.lit (.bool true), .lit (.int .i64 pos), .lit (.int .i32 (Utf8.decode s pos).1)] [.bool true, .int .i64 pos, .int .i32 (Utf8.decode s pos).1] rfl (by
          intro i t v ht hv
          match i with
          | 0 => cases ht; cases hv; exact .lit _
          | 1 => cases ht; cases hv; exact .lit _
          | 2 => cases ht; cases hv; exact .lit _
          | n + 3 => simp at ht)
end
end Go.AW

/- Soundness: interface values, function values, maps. -/
set_option linter.unusedVariables false
set_option linter.unusedSimpArgs false
namespace Go.AW
open Go
open Go.ChangeMaps (setBlock)

section
variable {P : Program} {X X' : Xs} {W : Nat → Prop} {pl : Pl} {w w' : World} {m : Mem}

theorem lits_val {vs : List Value} {v : Value} (h : VRel X pl w (.agg (vs.map .lit)) v) : v = .agg vs.toArray := map_lit_inv h
theorem valK_ok {t : T} {v : Value} (h : VRel X pl w t v) {K : Value → Prop} (hK : valK t K) : K v := by
  unfold valK at hK
  split at hK
  · rw [h.lit_inv]; exact hK
  · obtain ⟨vs, rfl, h2⟩ := litsK_elim hK
    rw [map_lit_inv h]; exact h2
  · exact hK.elim

theorem mkIfcA_ok {t : TypeId} {x : T} {vx : Value} (hx : VRel X pl w x vx) {K : T → Prop} (h : mkIfcA P t x K) : PureOk P X pl w (Instr.makeInterface t vx) K := by
  unfold mkIfcA at h
  split at h
  · exact h.elim
  · rename_i d hni hu
    have hrun : (Instr.makeInterface t vx).run P w = .ok (.iface t vx) w := by
      unfold Instr.makeInterface
      simp only [Sem.run_bind, run_underlying hu, Result.andThen_ok]
      cases d <;> first | rfl | exact absurd hu (hni _)
    split at h
    · obtain rfl := hx.lit_inv
      exact ⟨_, _, hrun, h, .lit _⟩
    · obtain ⟨vs, rfl, h2⟩ := litsK_elim h
      obtain rfl := map_lit_inv hx
      exact ⟨_, _, hrun, h2, .lit _⟩
    · cases hx with
      | sl tok sz rows v hb ht =>
        refine ⟨_, _, hrun, h, .ifc t _ _ ?_⟩
        cases hb with
        | sl _ _ _ a cap cs h1 h2 h3 h4 => exact .sl none _ _ a cap cs h1 h2 h3 h4
    · exact h.elim
  · exact h.elim

theorem tup2 {a b : T} {u v : Value} (ha : VRel X pl w a u) (hb : VRel X pl w b v) : VRel X pl w (.tup [a, b]) (.tuple #[u, v]) := by
  refine .tup [a, b] [u, v] rfl ?_
  intro i t x ht hx
  match i with
  | 0 => cases ht; cases hx; exact ha
  | 1 => cases ht; cases hx; exact hb
  | n + 2 => cases ht
theorem run_zero {t : TypeId} {i : TypeInfo} {z : Value} (hi : P.info? t = some i) (hz : i.zero = some z) : (zeroValue t).run P w = .ok z w := by
  unfold zeroValue
  simp only [Sem.run_bind, run_typeInfo _ hi, Result.andThen_ok, hz]
  rfl

theorem typeAsA_ok {xt at' : TypeId} {x : T} {vx : Value} {ok : Bool} (hx : VRel X pl w x vx) {K : T → Prop} (h : typeAsA P x at' ok K) : PureOk P X pl w (Instr.typeAssert vx xt at' ok) K := by
  unfold typeAsA at h
  split at h
  · exact h.elim
  · rename_i d hni hu
    split at h <;> try (exact h.elim)
    rename_i i hi
    split at h <;> try (exact h.elim)
    rename_i z hz
    have hno : ∀ ms, d ≠ .interface ms := by intro ms e; exact hni ms e
    have zr : (zeroValue at').run P w = .ok z w := run_zero hi hz
    have fnil : (Instr.typeAssert .nilIface xt at' true).run P w = .ok (.tuple #[z, .bool false]) w := by
      unfold Instr.typeAssert
      simp only [Sem.run_bind, run_underlying hu, Result.andThen_ok]
      cases d <;> first | exact absurd rfl (hno _) | simp [zr]
    have fno : ∀ t v, t ≠ at' → (Instr.typeAssert (.iface t v) xt at' true).run P w = .ok (.tuple #[z, .bool false]) w := by
      intro t v hne
      unfold Instr.typeAssert
      simp only [Sem.run_bind, run_underlying hu, Result.andThen_ok]
      cases d <;> first | exact absurd rfl (hno _) | simp [zr, hne]
    have fyes : ∀ v b, (Instr.typeAssert (.iface at' v) xt at' b).run P w = .ok (if b then .tuple #[v, .bool true] else v) w := by
      intro v b
      unfold Instr.typeAssert
      simp only [Sem.run_bind, run_underlying hu, Result.andThen_ok]
      cases d <;> first | exact absurd rfl (hno _) | simp
    split at h
    · split at h
      · obtain rfl := hx.lit_inv
        exact ⟨_, _, fnil, h, tup2 (ofV_ok _) (.lit _)⟩
      · exact h.elim
    · rename_i t v
      obtain rfl := hx.lit_inv
      split at h
      · rename_i e
        obtain rfl := Nat.eq_of_beq_eq_true e
        exact ⟨_, _, fyes v true, h, tup2 (ofV_ok _) (.lit _)⟩
      · rename_i e
        obtain rfl := Nat.eq_of_beq_eq_true e
        exact ⟨_, _, fyes v false, h, ofV_ok _⟩
      · rename_i e
        have hne : t ≠ at' := fun e2 => by subst e2; simp at e
        exact ⟨_, _, fno t v hne, h, tup2 (ofV_ok _) (.lit _)⟩
      · exact h.elim
    · rename_i t y
      cases hx with
      | ifc _ _ v hb =>
        split at h
        · rename_i e
          obtain rfl := Nat.eq_of_beq_eq_true e
          rw [forceT_eq] at h
          exact ⟨_, _, fyes v true, h, tup2 (hb.vrel) (.lit _)⟩
        · rename_i e
          obtain rfl := Nat.eq_of_beq_eq_true e
          rw [forceT_eq] at h
          exact ⟨_, _, fyes v false, h, hb.vrel⟩
        · rename_i e
          have hne : t ≠ at' := fun e2 => by subst e2; simp at e
          exact ⟨_, _, fno t v hne, h, tup2 (ofV_ok _) (.lit _)⟩
        · exact h.elim
    · exact h.elim
  · exact h.elim

theorem makeFuncA_ok {fn : Fn} {ft ct : List T} {fv cv : List Value} (hl : ct.length = cv.length) (hf : ft.length = fv.length) (hc : ∀ (i : Nat) (t : T) (v : Value), ct[i]? = some t → cv[i]? = some v → VRel X pl w t v)
    {K : T → Prop} (h : makeFuncA fn ft ct K) : PureOk P X pl w (Instr.makeFunc fn fv.toArray cv.toArray) K := by
  unfold makeFuncA at h
  split at h
  · obtain rfl : fv = [] := List.length_eq_zero_iff.1 hf.symm
    exact ⟨_, _, rfl, h, .clo _ ct cv hl hc⟩
  · exact h.elim

theorem makeMap_ok (hm : MRel X W pl w m) {id : Nat} (hid : pl id = none) (hW : ∀ b, w.heap.size ≤ b → W b) {t : TypeId} {K : T → Mem → Prop} (h : memF m id (.map []) (K (.mref id))) :
    OpOk P X W pl w (some id) (Instr.makeMap t none) K := by
  rw [memF_eq] at h
  have hxm := hm.xmono_alloc (.map #[] 0)
  have hp := hm.pmono_alloc (.map #[] 0) (.obj w.heap.size) hid
  have hrun : (Instr.makeMap t none).run P w = .ok (.map (some w.heap.size)) (w.alloc (.map #[] 0)) := by
    simp [Instr.makeMap, newObj, Sem.run]
  refine ⟨_, _, _, _, hrun, h, X, upd pl id (.obj w.heap.size), hxm, hp, fun i hi hn => by rw [upd_other _ _ (fun e => hi (by rw [e]))]; exact hn, .alloc W w _, ?_, ?_, fun _ _ h => .inl h⟩
  · exact hm.alloc hid hW _ _ _ rfl ⟨_, rfl, _, _, heap_alloc_new w _, rfl, by simp, by simp⟩
  · exact .mref id _ (upd_same _ _ _)

/-- An object of an id's own is changed. -/
theorem setObj_step (hm : MRel X W pl w m) (id' : Option Nat) {id b : Nat} (hp : pl id = some (.obj b)) (o' : Obj) (blk : Blk) (hlt : b < w.heap.size)
    (hb : (setBlock w b o').heap[b]? = some o' → BlkOk X pl (setBlock w b o') (.obj b) blk) {t : T} {v : Value} (hv : ∀ X' pl' w', VRel X' pl' w' t v) :
    StepOk X W pl w id' (m.put id blk) t v (setBlock w b o') := by
  have hnew : (setBlock w b o').heap[b]? = some o' := by
    simp only [setBlock]
    rw [Array.getElem?_setIfInBounds_self]
    simp [hlt]
  have hne : ∀ b2, b2 ≠ b → (setBlock w b o').heap[b2]? = w.heap[b2]? := fun b2 h2 => setBlock_other w b b2 o' h2
  have hxm : XMono X X w (setBlock w b o') := by
    intro b2 off hb
    have h2 : b2 ≠ b := (hm.xin b2 off hb).2 id _ hp
    exact ⟨hb, World.cell?_of_block (hne b2 h2)⟩
  have hpm : PMono pl pl w (setBlock w b o') := by
    intro i li hi
    refine ⟨⟨li, hi, li.le_refl⟩, ?_⟩
    rintro b2 sz rfl _ n hn2
    refine roomy_of_heap (hne b2 fun e => ?_) hn2
    subst e
    have := hm.apart i id _ _ b2 hi hp rfl rfl
    subst this
    rw [hi] at hp; cases hp
  have hsz : (setBlock w b o').heap.size = w.heap.size := by simp [setBlock]
  have hup := upd_self hp
  have hm' : MRel X W pl (setBlock w b o') (m.put id blk) := by
    have := hm.update (X' := X) (id := id) (l := .obj b) (blk := blk) (w' := setBlock w b o') hxm (by rw [hup]; exact hpm)
      (fun i li b2 hi hli hb2 => hne b2 fun e => hi (by subst e; exact hm.apart i id li _ b2 hli hp hb2 rfl)) (by rw [hsz]; exact Nat.le_refl _)
      (by rw [hup]; exact hb hnew) (fun b2 hb2 => by
        cases hb2
        exact ⟨(hm.placed id _ b hp rfl).1, by rw [hsz]; exact hlt, fun i li hi hli hb2 => hi (hm.apart i id li _ b hli hp hb2 rfl)⟩)
      (fun b2 off hb => by
        obtain ⟨h1, h2⟩ := hm.xin b2 off hb
        exact ⟨by rw [hsz]; exact h1, h2 id _ hp, fun i li _ hli => h2 i li hli⟩)
    rw [hup] at this
    exact this
  refine ⟨X, pl, hxm, hpm, fun _ _ h => h, ⟨by rw [hsz]; exact Nat.le_refl _, rfl, rfl, rfl, ?_⟩, hm', hv _ _ _, fun _ _ h => .inl h⟩
  intro b2 hb2 hW
  refine hne b2 fun e => hW ?_
  subst e
  exact (hm.placed id _ b2 hp rfl).1

def kvOf (e : MapEntry) : Value × Value := (e.key, e.val)
theorem findNow_get (d : TypeDesc) (k : Value) : ∀ (es : List MapEntry) (i : Nat) (r : Option Value), mapGet d k (es.map kvOf) = some r →
    match r with
    | none => Instr.findNow d k es i = some none
    | some v => ∃ j, Instr.findNow d k es i = some (some (j, v))
  | [], i, r, h => by
    simp only [List.map_nil, mapGet, Option.some.injEq] at h
    subst h; rfl
  | e :: es, i, r, h => by
    simp only [List.map_cons, mapGet, kvOf] at h
    simp only [Instr.findNow]
    cases hs : Instr.sameNow d k e.key with
    | none => rw [hs] at h; cases h
    | some b =>
      rw [hs] at h
      cases b with
      | true =>
        simp only [Option.some.injEq] at h
        subst h
        exact ⟨i, rfl⟩
      | false => exact findNow_get d k es (i + 1) r h
theorem findNow_put (d : TypeDesc) (k v : Value) : ∀ (es : List MapEntry) (i : Nat) (kv' : List (Value × Value)), mapPut d k v (es.map kvOf) = some kv' →
    (∃ j e, es[j]? = some e ∧ Instr.sameNow d k e.key = some true ∧ Instr.findNow d k es i = some (some (i + j, e.val)) ∧ kv' = (es.map kvOf).set j (k, v)) ∨ (Instr.findNow d k es i = some none ∧ kv' = es.map kvOf ++ [(k, v)])
  | [], i, kv', h => by
    simp only [List.map_nil, mapPut, Option.some.injEq] at h
    subst h; exact .inr ⟨rfl, rfl⟩
  | e :: es, i, kv', h => by
    simp only [List.map_cons, mapPut, kvOf] at h
    simp only [Instr.findNow]
    cases hs : Instr.sameNow d k e.key with
    | none => rw [hs] at h; cases h
    | some b =>
      rw [hs] at h
      cases b with
      | true =>
        simp only [Option.some.injEq] at h
        subst h
        exact .inl ⟨0, e, rfl, hs, rfl, rfl⟩
      | false =>
        simp only [Option.map_eq_some_iff] at h
        obtain ⟨kv2, h2, rfl⟩ := h
        rcases findNow_put d k v es (i + 1) kv2 h2 with ⟨j, e2, a1, a2, a3, rfl⟩ | ⟨a1, rfl⟩
        · exact .inl ⟨j + 1, e2, by simpa using a1, a2, by simp only [a3]; congr 3; omega, rfl⟩
        · exact .inr ⟨a1, rfl⟩
theorem checkKey_ok {d : TypeDesc} {kt : TypeId} (hu : P.underlying kt = some d) (hd : keyDesc d = true) (b : Bool) (n : Nat) (v : Value) : (Instr.checkKey b (n + 1) kt v).run P w = .ok () w := by
  unfold Instr.checkKey
  simp only [Sem.run_bind, run_underlying hu, Result.andThen_ok]
  cases d <;> simp [keyDesc] at hd <;> rfl
theorem ba_beq {a b : ByteArray} : (a == b) = true ↔ a = b := by
  constructor
  · intro h
    have h2 : (a.data == b.data) = true := h
    exact ByteArray.ext (eq_of_beq h2)
  · rintro rfl
    exact (beq_self_eq_true a.data : (a.data == a.data) = true)
theorem sameNow_bits {d : TypeDesc} {k k' : Value} (h : Instr.sameNow d k k' = some true) (n : Nat) : Instr.sameBits (n + 1) k' k = true := by
  unfold Instr.sameNow at h
  split at h
  · split at h
    · rename_i e
      subst e
      simp only [Option.some.injEq, beq_iff_eq] at h
      subst h
      simp [Instr.sameBits]
    · cases h
  · simp only [Option.some.injEq] at h
    simp only [Instr.sameBits]
    exact ba_beq.2 (ba_beq.1 h).symm
  · simp only [Option.some.injEq] at h
    simp only [Instr.sameBits]
    have := eq_of_beq h
    subst this; exact beq_self_eq_true _
  · cases h

theorem lookupA_ok (hm : MRel X W pl w m) {t : TypeId} {x ix : T} {vx vi : Value} {ok : Bool} (hx : VRel X pl w x vx) (hi : VRel X pl w ix vi) {K : T → Prop} (h : lookupA P m t x ix ok K) : PureOk P X pl w (Instr.lookup t vx vi ok) K := by
  unfold lookupA at h
  split at h <;> try (exact h.elim)
  rename_i kt et hu
  split at h <;> try (exact h.elim)
  rename_i kd ei hk he
  split at h <;> try (exact h.elim)
  rename_i z hz
  obtain ⟨hkd, h⟩ := chk_elim h
  split at h <;> try (exact h.elim)
  rename_i id k
  obtain rfl := hi.lit_inv
  split at h <;> try (exact h.elim)
  rename_i kv hg
  obtain ⟨r, hr, h⟩ := h
  cases hx with
  | mref _ b hp =>
    obtain ⟨l, hl, b', e, es, ck, hh, hkv, _, _⟩ := hm.blk _ _ hg
    rw [hp] at hl
    cases hl
    cases e
    have zr : (zeroValue et).run P w = .ok z w := run_zero he hz
    have hkv' : es.toList.map kvOf = kv := hkv
    rw [← hkv'] at hr
    have hf := findNow_get kd vi es.toList 0 r hr
    have fk : ∀ q, Instr.findNow kd vi es.toList 0 = some q → (Instr.findKey kt vi es.toList).run P w = .ok q w := by
      intro q hq
      unfold Instr.findKey
      simp only [Sem.run_bind, run_underlying hk, Result.andThen_ok, hq]
      rfl
    have gt : (getObj b).run P w = .ok (.map es ck) w := by simp [getObj, Sem.run, hh]
    have hrun : ∀ q, Instr.findNow kd vi es.toList 0 = some q → (Instr.lookup t (.map (some b)) vi ok).run P w =
        .ok (match q with | some (_, v) => (if ok then .tuple #[v, .bool true] else v) | none => (if ok then .tuple #[z, .bool false] else z)) w := by
      intro q hq
      unfold Instr.lookup
      simp only [Sem.run_bind, run_underlying hu, Result.andThen_ok, gt, checkKey_ok hk hkd, fk q hq, Sem.run_pure]
      cases q with
      | none => simp only [Sem.run_bind, zr, Result.andThen_ok, Sem.run_pure]
      | some p => rfl
    rw [forceT_eq] at h
    cases r with
    | none =>
      have hrun := hrun _ hf
      simp only at hrun h
      cases ok with
      | true => exact ⟨_, _, hrun, h, tup2 (ofV_ok _) (.lit _)⟩
      | false => exact ⟨_, _, hrun, h, ofV_ok _⟩
    | some v =>
      obtain ⟨j, hf⟩ := hf
      have hrun := hrun _ hf
      simp only at hrun h
      cases ok with
      | true => exact ⟨_, _, hrun, h, tup2 (ofV_ok _) (.lit _)⟩
      | false => exact ⟨_, _, hrun, h, ofV_ok _⟩

theorem modify_kv (es : List MapEntry) (j : Nat) (k v : Value) : (es.modify j fun e => { e with key := k, val := v }).map kvOf = (es.map kvOf).set j (k, v) := by
  induction es generalizing j with
  | nil => simp
  | cons e es ih =>
    cases j with
    | zero => simp [kvOf]
    | succ j => simp [ih]
theorem modify_born (es : List MapEntry) (j : Nat) (k v : Value) : (es.modify j fun e => { e with key := k, val := v }).map (·.born) = es.map (·.born) := by
  induction es generalizing j with
  | nil => simp
  | cons e es ih =>
    cases j with
    | zero => simp
    | succ j => simp [ih]
theorem born_pair {l : List MapEntry} : l.Pairwise (fun a b => a.born < b.born) ↔ (l.map (·.born)).Pairwise (· < ·) := List.pairwise_map.symm
theorem mapUpdateA_ok (hm : MRel X W pl w m) (id' : Option Nat) {t : TypeId} {x k v : T} {vx vk vv : Value} (hx : VRel X pl w x vx) (hk : VRel X pl w k vk) (hv : VRel X pl w v vv) {K : Mem → Prop} (h : mapUpdateA P m t x k v K) :
    ∃ m' w', (Instr.mapUpdate t vx vk vv).run P w = .ok () w' ∧ K m' ∧ StepOk X W pl w id' m' (.lit undef) undef w' := by
  unfold mapUpdateA at h
  split at h <;> try (exact h.elim)
  rename_i kt et hu
  split at h <;> try (exact h.elim)
  rename_i kd hkd
  obtain ⟨hkd2, h⟩ := chk_elim h
  split at h <;> try (exact h.elim)
  rename_i id k
  obtain rfl := hk.lit_inv
  split at h <;> try (exact h.elim)
  rename_i kv hg
  have h := valK_ok hv h
  obtain ⟨kv', hput, h⟩ := h
  rw [memF_eq] at h
  cases hx with
  | mref _ b hp =>
    obtain ⟨l, hl, b', e, es, ck, hh, hkv, hpw, hbo⟩ := hm.blk _ _ hg
    rw [hp] at hl
    cases hl
    cases e
    have hlt : b < w.heap.size := (Array.getElem?_eq_some_iff.1 hh).1
    have hkv' : es.toList.map kvOf = kv := hkv
    rw [← hkv'] at hput
    have fk : ∀ q, Instr.findNow kd vk es.toList 0 = some q → (Instr.findKey kt vk es.toList).run P w = .ok q w := by
      intro q hq
      unfold Instr.findKey
      simp only [Sem.run_bind, run_underlying hkd, Result.andThen_ok, hq]
      rfl
    have gt : (getObj b).run P w = .ok (.map es ck) w := by simp [getObj, Sem.run, hh]
    have st : ∀ o, (∀ cs el fr, w.heap[b]? ≠ some (.cells cs el fr)) → (setObj b o).run P w = .ok () (setBlock w b o) := by
      intro o hno
      simp [setObj, Sem.run, hh, setBlock]
    have hno : ∀ cs el fr, w.heap[b]? ≠ some (.cells cs el fr) := by intro cs el fr e; rw [hh] at e; cases e
    rcases findNow_put kd vk vv es.toList 0 kv' hput with ⟨j, e, h1, h2, h3, rfl⟩ | ⟨h1, rfl⟩
    · refine ⟨_, _, ?_, h, setObj_step hm id' hp (.map (es.modify j fun e => { e with key := vk, val := vv }) ck) (.map _) hlt (fun hn => ⟨b, rfl, _, _, hn, ?_, ?_, ?_⟩) (fun _ _ _ => .lit _)⟩
      · unfold Instr.mapUpdate
        rw [Nat.zero_add] at h3
        have hej : es[j]? = some e := by rw [← Array.getElem?_toList]; exact h1
        simp only [Sem.run_bind, run_underlying hu, Result.andThen_ok, gt, checkKey_ok hkd hkd2, fk _ h3]
        have hs : (Instr.keyThatStays (((es[j]?).map (·.key)).getD vk) vk).run P w = .ok vk w := by
          unfold Instr.keyThatStays
          rw [hej]
          simp only [Option.map_some, Option.getD_some, sameNow_bits h2 9999, if_true, Sem.run_pure]
        simp only [hs, Result.andThen_ok, st _ hno]
      · rw [Array.toList_modify]; exact modify_kv es.toList j vk vv
      · rw [Array.toList_modify, born_pair, modify_born, ← born_pair]; exact hpw
      · intro e2 he2
        rw [Array.toList_modify] at he2
        have : e2.born ∈ es.toList.map (·.born) := by rw [← modify_born es.toList j vk vv]; exact List.mem_map_of_mem he2
        obtain ⟨e3, h3, h4⟩ := List.mem_map.1 this
        rw [← h4]; exact hbo e3 h3
    · refine ⟨_, _, ?_, h, setObj_step hm id' hp (.map (es.push { key := vk, val := vv, born := ck }) (ck + 1)) (.map _) hlt (fun hn => ⟨b, rfl, _, _, hn, ?_, ?_, ?_⟩) (fun _ _ _ => .lit _)⟩
      · unfold Instr.mapUpdate
        simp only [Sem.run_bind, run_underlying hu, Result.andThen_ok, gt, checkKey_ok hkd hkd2, fk _ h1, st _ hno]
      · rw [Array.toList_push, List.map_append]; rfl
      · rw [Array.toList_push, List.pairwise_append]
        exact ⟨hpw, by simp, fun a ha b' hb' => by obtain rfl := List.mem_singleton.1 hb'; exact hbo a ha⟩
      · intro e2 he2
        rw [Array.toList_push] at he2
        rcases List.mem_append.1 he2 with h2 | h2
        · have := hbo e2 h2; omega
        · obtain rfl := List.mem_singleton.1 h2
          exact Nat.lt_succ_self _

theorem clearA_ok (hm : MRel X W pl w m) (id' : Option Nat) {t : TypeId} (ts : Array TypeId) (ty : TypeId) (ht : ts[0]? = some t) {x : T} {vx : Value} (hx : VRel X pl w x vx) {K : T → Mem → Prop} (h : clearA P m t x K) :
    OpOk P X W pl w id' (Builtin.clear_ ts ty #[vx]) K := by
  unfold clearA at h
  split at h <;> try (exact h.elim)
  rename_i kt et hu
  split at h <;> try (exact h.elim)
  rename_i id
  split at h <;> try (exact h.elim)
  rename_i kv hg
  rw [memF_eq] at h
  cases hx with
  | mref _ b hp =>
    obtain ⟨l, hl, b', e, es, ck, hh, hkv, hpw, hbo⟩ := hm.blk _ _ hg
    rw [hp] at hl
    cases hl
    cases e
    have hlt : b < w.heap.size := (Array.getElem?_eq_some_iff.1 hh).1
    refine ⟨.tuple #[], _, _, _, ?_, h, setObj_step hm id' hp (.map #[] ck) (.map _) hlt (fun hn => ⟨b, rfl, _, _, hn, rfl, by simp, by simp⟩) (fun _ _ _ => .tup [] [] rfl (by simp))⟩
    unfold Builtin.clear_
    simp only [ht, show (#[Value.map (some b)] : Array Value)[0]? = some (.map (some b)) from rfl, Sem.run_bind, run_underlying hu, Result.andThen_ok]
    simp [getObj, setObj, Sem.run, hh, setBlock, Result.andThen]
end
end Go.AW
