/- The law of torn bytes. -/
import Derived.Test.YtplmbihabncbjaaC9
set_option linter.unusedVariables false
set_option linter.unusedSimpArgs false
namespace Go.AW.Crc
open Go Go.AW Go.Proofs
set_option maxRecDepth 10000
set_option pp.maxSteps 900

theorem bitAt_set (l : List UInt8) (i r : Nat) (v : UInt8) (hv : l[i]? = some v) (hr : r < 8) (j : Nat) :
    bitAt (l.set i (v ^^^ (1 <<< UInt8.ofNat r))) j = (bitAt l j ^^ decide (j = 8 * i + r)) := by
  have hi : i < l.length := (List.getElem?_eq_some_iff.1 hv).1
  unfold bitAt
  rw [List.getD_eq_getElem?_getD, List.getD_eq_getElem?_getD, List.getElem?_set]
  by_cases e : i = j / 8
  · subst e
    rw [if_pos rfl, if_pos hi, hv]
    simp only [Option.getD_some, UInt8.toBitVec_xor, BitVec.getLsbD_xor]
    congr 1
    have key : ∀ r, r < 8 → ∀ q, q < 8 → ((1 : UInt8) <<< UInt8.ofNat r).toBitVec.getLsbD q = decide (q = r) := by decide
    rw [key r hr (j % 8) (by omega)]
    apply decide_eq_decide.2
    omega
  · rw [if_neg e]
    have : decide (j = 8 * i + r) = false := decide_eq_false (by omega)
    rw [this, Bool.xor_false]

theorem turned_succ (p : Nat) (t : BitVec 32) (k j : Nat) : turned p t (k + 1) j = (turned p t k j ^^ (decide (j = p + k) && t.getLsbD k)) := by
  unfold turned
  by_cases e : j = p + k
  · subst e
    rw [decide_eq_true (by omega), decide_eq_true (by omega), decide_eq_false (p := p + k < p + k) (by omega), Nat.add_sub_cancel_left]
    simp
  · rw [decide_eq_false e]
    have : decide (j < p + (k + 1)) = decide (j < p + k) := decide_eq_decide.2 (by omega)
    rw [this]; simp

/-- The bytes behind some rounds. -/
structure Torn (b : List UInt8) (p : Nat) (t : BitVec 32) (k : Nat) (c : List UInt8) : Prop where
  len : c.length = b.length
  bit : ∀ j, j < 8 * b.length → bitAt c j = (bitAt b j ^^ turned p t k j)
  fits : ∀ i, i < k → t.getLsbD i = true → p + i < 8 * b.length

theorem Torn.zero (b : List UInt8) (p : Nat) (t : BitVec 32) : Torn b p t 0 b :=
  ⟨rfl, fun j _ => by unfold turned; rw [show (decide (p ≤ j) && decide (j < p + 0)) = false by simp]; simp, fun i h => by omega⟩
theorem Torn.skip {b c : List UInt8} {p : Nat} {t : BitVec 32} {k : Nat} (h : Torn b p t k c) (hb : t.getLsbD k = false) : Torn b p t (k + 1) c :=
  ⟨h.len, fun j hj => by rw [turned_succ, hb, Bool.and_false, Bool.xor_false]; exact h.bit j hj, fun i hi ht => by
    by_cases e : i = k
    · subst e; rw [hb] at ht; cases ht
    · exact h.fits i (by omega) ht⟩
theorem Torn.step {b c : List UInt8} {p : Nat} {t : BitVec 32} {k : Nat} (h : Torn b p t k c) (hb : t.getLsbD k = true) {v : UInt8} (hv : c[(p + k) / 8]? = some v) :
    Torn b p t (k + 1) (c.set ((p + k) / 8) (v ^^^ (1 <<< UInt8.ofNat ((p + k) % 8)))) := by
  have hi : (p + k) / 8 < b.length := by rw [← h.len]; exact (List.getElem?_eq_some_iff.1 hv).1
  refine ⟨by rw [List.length_set]; exact h.len, fun j hj => ?_, fun i hi2 ht => ?_⟩
  · rw [bitAt_set _ _ _ _ hv (by omega), turned_succ, hb, Bool.and_true, h.bit j hj, Bool.xor_assoc]
    congr 2
    exact decide_eq_decide.2 (by omega)
  · by_cases e : i = k
    · subst e; omega
    · exact h.fits i (by omega) ht

theorem CrcTears_law (b : List UInt8) (at_ : Int) (t : BitVec 32) (hl : b.length ≤ reachBytes) (ha1 : -9223372036854775808 ≤ at_) (ha2 : at_ ≤ 9223372036854775807) :
    FCv Try.prog 4 [.sl none 1 (bytesR b), i64 at_, u32 t] (tb true) := by
  have hrb : reachBytes = 140737488351232 := rfl
  refine FCv_of_awp (fn := Try.f4) (c := bodyC Try.f4) Try.func4 rfl (of_decide_eq_true rfl) [31] ?_
  conv => whnf
  refine ⟨_, awake_law, ?_⟩
  conv => whnf
  refine br_intro (fun h => ?_) (fun h => ?_)
  · rw [h]
    conv => whnf
    exact .inl rfl
  have h1 := of_decide_eq_false h
  rw [bytesR_len] at h1
  rw [h]
  conv => whnf
  refine br_intro (fun h => ?_) (fun h => ?_)
  · rw [h]
    conv => whnf
    exact .inl rfl
  have h2 := of_decide_eq_false h
  rw [h]
  conv => whnf
  refine br_intro (fun h => ?_) (fun h => ?_)
  · rw [h]
    conv => whnf
    exact .inl rfl
  rw [h]
  rw [beq_eq_false_iff_ne] at h
  have h3 : t ≠ 0#32 := fun e => h (by rw [e]; rfl)
  obtain ⟨p, rfl⟩ := Int.eq_ofNat_of_zero_le (a := at_) (by omega)
  conv => whnf
  refine ⟨by decide, ?_⟩
  conv => whnf
  have q8 : ∀ z : Nat, z ≤ 9223372036854775807 → IntKind.i64.wrap ((z : Int).tdiv 8) = ((z / 8 : Nat) : Int) := fun z hz => by
    rw [show (z : Int).tdiv 8 = ((z / 8 : Nat) : Int) from (Int.ofNat_tdiv _ _).symm]
    exact wrap_i64 _ (by omega) (by omega)
  rw [q8 p (by omega)]
  refine br_intro (fun h => ?_) (fun h => ?_)
  · rw [h]
    conv => whnf
    exact .inl rfl
  have h4 := of_decide_eq_false h
  rw [bytesR_len] at h4
  rw [h]
  conv => whnf
  refine ⟨bytesR_bvN b, ?_⟩
  conv => whnf
  have n1 : (Try.prog.types[5]).bytes = 1 := rfl
  refine ⟨by rw [n1, bytesR_len]; omega, by rw [bytesR_len]; omega, ?_⟩
  conv => whnf
  refine loop_intro (fun q : {q : Fin 33 × List UInt8 // Torn b p t q.1 q.2} => ⟨[(0, .sl none 1 (bytesR b)), (1, i64 p), (2, u32 t), (7, .sref 1 0 b.length), (8, i64 q.1.1)], [(1, .own 1 (bytesR q.1.2))], 67, 2, [31]⟩) (fun q => 32 - q.1.1) ⟨(0, b), Torn.zero b p t⟩ ?_ ?_
  · refine Wk.intro [] rfl (fun p hp => by cases hp) ⟨.same rfl trivial, .same rfl trivial, .same rfl trivial, .same ?_ (by exact rfl), .same rfl trivial, trivial⟩
      ⟨⟨rfl, .inl ⟨rfl, bytesR_blt _ _⟩⟩, trivial⟩
    exact congrArg (T.sref 1 0) (bytesR_len b)
  rintro ⟨⟨k, c⟩, hT⟩
  have hT : Torn b p t k c := hT
  dsimp only
  conv => whnf
  refine br_intro (fun h => ?_) (fun h => ?_)
  · rw [h]
    have hk : k.val < 32 := by have h' : ((k.val : Nat) : Int) < 32 := of_decide_eq_true h; omega
    conv => whnf
    refine ⟨by omega, ?_⟩
    conv => whnf
    have e1 : bitsI .and .u32 ((t.toNat : Int).fdiv (2 ^ min (Int.toNat (k.val : Int)) IntKind.u32.bits)) 1 = ((t >>> k.val &&& 1#32).toNat : Int) :=
      (congrArg (fun z => bitsI .and .u32 z 1) (shr_u .u32 rfl t k.val (show k.val ≤ 32 by omega))).trans (and32 _ 1#32)
    rw [e1, and1_b1, BitVec.getLsbD_ushiftRight, Nat.add_zero]
    cases hbt : t.getLsbD k.val with
    | false =>
      conv => whnf
      refine Nx.intro ⟨(⟨k + 1, by omega⟩, c), hT.skip hbt⟩ (by simp only; omega) ?_
      refine Wk.intro [] rfl (fun p hp => by cases hp) ⟨.same rfl trivial, .same rfl trivial, .same rfl trivial, .same rfl (by exact rfl), .same ?_ trivial, trivial⟩
        ⟨⟨rfl, .inl ⟨rfl, bytesR_blt _ _⟩⟩, trivial⟩
      exact congrArg (fun z => T.lit (.int .i64 z)) (wrap_i64 _ (by omega) (by omega))
    | true =>
      conv => whnf
      have e2 : IntKind.i64.wrap ((p : Int) + (k.val : Int)) = ((p + k.val : Nat) : Int) := wrap_i64 _ (by omega) (by omega)
      refine ⟨by decide, ?_⟩
      conv => whnf
      rw [e2, q8 (p + k.val) (by omega)]
      refine br_intro (fun h => ?_) (fun h => ?_)
      · rw [h]
        conv => whnf
        exact .inl rfl
      rw [h]
      have h5 : (p + k.val) / 8 < b.length := by have h' : ¬ (((p + k.val) / 8 : Nat) : Int) ≥ (b.length : Int) := of_decide_eq_false h; omega
      obtain ⟨v, hv⟩ : ∃ v, c[(p + k.val) / 8]? = some v := ⟨_, List.getElem?_eq_getElem (by rw [hT.len]; exact h5)⟩
      conv => whnf
      refine ⟨by decide, ?_⟩
      conv => whnf
      rw [e2, q8 (p + k.val) (by omega)]
      refine ⟨⟨by omega, by omega⟩, ?_⟩
      conv => whnf
      have e3 : 0 + (((p + k.val) / 8 : Nat) : Int).toNat = (p + k.val) / 8 := by omega
      rw [e3]
      refine nthK_intro (bytes_get hv) ?_
      conv => whnf
      refine ⟨by decide, ?_⟩
      conv => whnf
      have e4 : (IntKind.i64.wrap ((p : Int) + (k.val : Int))).tmod 8 = (((p + k.val) % 8 : Nat) : Int) := by rw [e2]; exact (Int.ofNat_tmod _ _).symm
      rw [e4, e2]
      refine ⟨by omega, ?_⟩
      conv => whnf
      refine ⟨⟨by omega, by omega⟩, ?_⟩
      conv => whnf
      rw [e3]
      refine nthK_intro (bytes_get hv) ?_
      conv => whnf
      refine Nx.intro ⟨(⟨k + 1, by omega⟩, _), hT.step hbt hv⟩ (by simp only; omega) ?_
      refine Wk.intro [] rfl (fun p hp => by cases hp) ⟨.same rfl trivial, .same rfl trivial, .same rfl trivial, .same rfl (by exact rfl), .same ?_ trivial, trivial⟩
        ⟨⟨rfl, .inl ⟨?_, bytesR_blt _ _⟩⟩, trivial⟩
      · exact congrArg (fun z => T.lit (.int .i64 z)) (wrap_i64 _ (by omega) (by omega))
      · refine congrArg (fun z => some (Blk.own 1 z)) ?_
        refine Eq.trans ?_ (bytesR_setB _ _ _)
        congr 1
        have e5 : ∀ r : Nat, r < 8 → bitsI .xor .u8 v.toNat (IntKind.u8.wrap (1 * 2 ^ min ((r : Int)).toNat IntKind.u8.bits)) = ((v ^^^ (1 <<< UInt8.ofNat r)).toNat : Int) := by
          intro r hr
          have h6 : IntKind.u8.wrap (1 * 2 ^ min ((r : Int)).toNat IntKind.u8.bits) = (((1 : UInt8) <<< UInt8.ofNat r).toNat : Int) := by
            have : ∀ r : Nat, r < 8 → IntKind.u8.wrap (1 * 2 ^ min ((r : Int)).toNat IntKind.u8.bits) = (((1 : UInt8) <<< UInt8.ofNat r).toNat : Int) := by decide
            exact this r hr
          rw [h6]
          exact xor8 v.toBitVec _
        exact congrArg (fun z => [T.lit (.int .u8 z)]) (e5 _ (by omega))
  · rw [h]
    have hk : k.val = 32 := by have h' : ¬ ((k.val : Nat) : Int) < 32 := of_decide_eq_false h; omega
    conv => whnf
    refine ⟨_, sum_law b hl, ?_⟩
    conv => whnf
    have whole : List.take b.length (List.drop 0 (bytesR c)) = bytesR c := by
      rw [List.drop_zero, List.take_of_length_le (by rw [bytesR_len, hT.len]; exact Nat.le_refl _)]
    have last : FCv Try.prog 10 [.sl none 1 (List.take b.length (List.drop 0 (bytesR c)))] (u32 (more 0 c)) := by
      rw [whole]
      exact sum_law c (by rw [hT.len]; exact hl)
    refine ⟨⟨by rw [bytesR_len, hT.len]; omega, by rw [whole]; exact bytesR_bvN c⟩, ?_⟩
    conv => whnf
    refine ⟨_, last, ?_⟩
    conv => whnf
    refine .inl (congrArg tb ?_)
    have hne : more 0 b ≠ more 0 c := tears (p := p) (t := t) hT.len h3 (by omega) (fun i hi => by
      have hi32 : i < 32 := by
        rcases Nat.lt_or_ge i 32 with h | h
        · exact h
        · rw [BitVec.getLsbD_of_ge _ _ h] at hi; cases hi
      exact hT.fits i (by omega) hi) (fun j hj => by rw [hT.bit j hj, hk])
    rw [bne_iff_ne]
    exact fun e => hne (BitVec.eq_of_toNat_eq (Int.ofNat.inj e))
end Go.AW.Crc
