import Derived.Test.YtagligpagpaceaaWirW13
import Derived.Test.YtagligpagpaceaaP7
import Derived.Test.YtagligpagpaceaaAw27
/- The wire: a byte that is turned. -/
set_option linter.unusedVariables false
set_option linter.unusedSimpArgs false
namespace Go.AW.Wir
open Go Go.AW Go.Proofs
set_option maxRecDepth 10000
set_option pp.maxSteps 60

theorem turned_plain {i : It} {c : List UInt8} (h : c ≠ (encode i).1) : (decode c).2 = 4 ∨ (decode c).2 = 0 ∧ ¬ i = (decode c).1 := by
  unfold decode
  cases hd : dec 12 4096 c with
  | none => exact .inl rfl
  | some p =>
    obtain ⟨j, left, r⟩ := p
    cases r with
    | nil => exact .inr ⟨rfl, fun e => h (by rw [e, dec_enc hd])⟩
    | cons x r => exact .inl rfl

theorem enV_ne {v : Val} (h : enV v = some []) : False := by
  cases v with
  | num n => rw [enV] at h; cases h
  | txt s => rw [enV] at h; cases h
  | lst l => rw [enV] at h; cases e : enL l with
    | none => rw [e] at h; cases h
    | some b => rw [e] at h; cases h
  | bad => rw [enV] at h; cases h
theorem xor_u8 (c v : UInt8) : bitsI .xor .u8 (c.toNat : Int) (v.toNat : Int) = ((c ^^^ v).toNat : Int) := xor8 c.toBitVec v.toBitVec
theorem turned_law (i : It) (hi : inI i) (at' : Int) (ha0 : 0 ≤ at') (ha1 : at' ≤ 65535) (v : UInt8) : FCv Try.prog 6 [itT i, .lit (.int .u16 at'), .lit (.int .u8 v.toNat)] (tb true) := by
  have n1 := items_law i 2000 1 (by decide) (by decide) (by decide) (by decide)
  obtain ⟨⟨p1, p2⟩, hp⟩ : ∃ p, itN i 2000 1 = p := ⟨_, rfl⟩
  rw [hp] at n1
  have x1 := texts_law i hi
  obtain ⟨⟨w1, w2⟩, hw⟩ : ∃ p, wiN i 100 10000 = p := ⟨_, rfl⟩
  rw [hw] at x1
  have e1 := encode_law i hi
  have la := enc_len i
  have le := @enc_eq i
  have hpl := @turned_plain i
  obtain ⟨⟨b, eb⟩, hA⟩ : ∃ p, encode i = p := ⟨_, rfl⟩
  rw [hA] at e1 la le hpl
  rw [itT_row] at n1 x1 e1 ⊢
  dsimp only at n1 x1 e1 la le hpl
  refine FCv_of_awp (fn := Try.f6) (c := bodyC Try.f6) Try.func6 rfl (of_decide_eq_true rfl) [45, 1000000 + 8] ?_
  conv => whnf
  refine ⟨_, awake_law, ?_⟩
  conv => whnf
  refine ⟨_, n1, ?_⟩
  conv => whnf
  refine br_intro (fun h1 => ?_) (fun h1 => ?_) <;> (rw [h1]; conv => whnf)
  · exact .inl rfl
  refine br_intro (fun h2 => ?_) (fun h2 => ?_) <;> (rw [h2]; conv => whnf)
  · exact .inl rfl
  refine ⟨_, x1, ?_⟩
  conv => whnf
  refine br_intro (fun h5 => ?_) (fun h5 => ?_) <;> (rw [h5]; conv => whnf)
  · exact .inl rfl
  refine ⟨_, e1, ?_⟩
  conv => whnf
  by_cases z1 : eb = 0
  rotate_left
  · rw [qn z1]
    conv => whnf
    exact .inl rfl
  rw [qq z1]
  conv => whnf
  by_cases z2 : (v.toNat : Int) = 0
  · rw [bq z2]
    conv => whnf
    exact .inl rfl
  rw [bn z2]
  conv => whnf
  have nb : (Try.prog.types[5]).bytes = 1 := rfl
  refine ⟨bytesR_bvN b, by rw [bytesR_len, nb]; omega, by rw [bytesR_len]; omega, ?_⟩
  conv => whnf
  have hb0 : 0 < b.length := by
    cases hbb : b with
    | nil => exact (enV_ne (by rw [le z1, hbb])).elim
    | cons x r => simp
  rw [bytesR_len]
  refine ⟨by omega, ?_⟩
  conv => whnf
  obtain ⟨k, hk⟩ : ∃ k : Nat, (IntKind.i64.wrap at').tmod (b.length : Int) = (k : Int) := by
    rw [wrap_i64 at' (by omega) (by omega), Int.tmod_eq_emod_of_nonneg ha0]
    exact ⟨(at' % (b.length : Int)).toNat, (Int.toNat_of_nonneg (Int.emod_nonneg _ (by omega))).symm⟩
  have hkl : k < b.length := by
    have := Int.tmod_lt_of_pos (IntKind.i64.wrap at') (show (0 : Int) < b.length by omega)
    omega
  rw [hk]
  refine ⟨⟨by omega, by omega⟩, ?_⟩
  conv => whnf
  rw [Int.toNat_natCast, show nth (bytesR b) (0 + k) = some [.lit (.int .u8 (b[k]).toNat)] from by rw [nth_eq, Nat.zero_add]; exact bytes_get (List.getElem?_eq_getElem hkl)]
  conv => whnf
  refine ⟨⟨by omega, by omega⟩, ?_⟩
  conv => whnf
  rw [Int.toNat_natCast, show nth (bytesR b) (0 + k) = some [.lit (.int .u8 (b[k]).toNat)] from by rw [nth_eq, Nat.zero_add]; exact bytes_get (List.getElem?_eq_getElem hkl)]
  conv => whnf
  rw [xor_u8]
  have hset : (bytesR b).set (0 + k) (spl [T.lit (Value.int IntKind.u8 ((b[k]).toNat : Int))] 0 (cellsT (T.lit (Value.int IntKind.u8 ((b[k] ^^^ v).toNat : Int))))) = bytesR (b.set k (b[k] ^^^ v)) := by
    rw [Nat.zero_add]
    exact bytesR_setB b k (b[k] ^^^ v)
  rw [hset]
  have hne : b.set k (b[k] ^^^ v) ≠ b := by
    intro e
    have h1 : (b.set k (b[k] ^^^ v))[k]? = b[k]? := by rw [e]
    rw [List.getElem?_set_self hkl, List.getElem?_eq_getElem hkl, Option.some.injEq] at h1
    have h2 : v = 0 := by
      have h3 := congrArg (fun z => b[k] ^^^ z) h1
      simpa [← UInt8.xor_assoc] using h3
    exact z2 (by rw [h2]; rfl)
  have hd := decode_law (b.set k (b[k] ^^^ v)) (by rw [List.length_set]; omega)
  have hq := hpl hne
  obtain ⟨⟨j, ej⟩, hJ⟩ : ∃ p, decode (b.set k (b[k] ^^^ v)) = p := ⟨_, rfl⟩
  rw [hJ] at hd hq
  have hs := same_law i j hi
  dsimp only at hd hq
  rw [itT_row j] at hd
  rw [itT_row, itT_row] at hs
  have htk : List.take b.length (List.drop 0 (bytesR (b.set k (b[k] ^^^ v)))) = bytesR (b.set k (b[k] ^^^ v)) := by
    rw [List.drop_zero, List.take_of_length_le (by rw [bytesR_len, List.length_set]; exact Nat.le_refl _)]
  have hg := FCm_give (P := Try.prog) (f := 8) (lo := 0) (len := b.length) (sz := 1) (rows := bytesR (b.set k (b[k] ^^^ v))) (t' := .sl none 1 (bytesR (b.set k (b[k] ^^^ v)))) ⟨⟨by rw [bytesR_len, List.length_set]; omega, fun row hr => bytesR_bvN _ row (List.mem_of_mem_drop (List.mem_of_mem_take hr))⟩, by rw [htk]⟩ hd
  refine ⟨[2], _, _, _, _, [], _, hg, ⟨rfl, ⟨rfl, trivial⟩, rfl, rfl, ⟨⟨rfl, ?_, ?_⟩, trivial⟩, rfl, rfl, trivial⟩, ?_⟩
  · show some (Blk.own 1 _) = some (renB _ (Blk.own 1 _))
    rw [renB_flat _ (bytesR_bvN _)]
    try exact congrArg (fun z => some (Blk.own 1 z)) hset
  · exact domB_flat _ (bytesR_bvN _)
  conv => whnf
  rcases hq with hq | ⟨hq, hji⟩
  · rw [bq hq]
    conv => whnf
    exact .inl rfl
  · rw [bn (show ¬ ej = 4 by omega)]
    conv => whnf
    rw [bq hq]
    conv => whnf
    refine ⟨_, hs, ?_⟩
    conv => whnf
    rw [df hji]
    exact .inl rfl
theorem turned_row (i : It) (at' turn : Int) (hi : inI i) (ha0 : IntKind.u16.min ≤ at') (ha1 : at' ≤ IntKind.u16.max) (ht0 : IntKind.u8.min ≤ turn) (ht1 : turn ≤ IntKind.u8.max) :
    FCv Try.prog 6 [itT i, .lit (.int .u16 at'), .lit (.int .u8 turn)] (tb true) := by
  have a0 : (0 : Int) ≤ at' := ha0
  have a1 : at' ≤ 65535 := ha1
  have b0 : (0 : Int) ≤ turn := ht0
  have b1 : turn ≤ 255 := ht1
  have e : turn = ((UInt8.ofNat turn.toNat).toNat : Int) := by rw [UInt8.toNat_ofNat']; omega
  rw [e]
  exact turned_law i hi at' a0 a1 _
end Go.AW.Wir
