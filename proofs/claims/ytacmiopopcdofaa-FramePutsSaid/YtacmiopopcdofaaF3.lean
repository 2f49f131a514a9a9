/- Frames: putting a record. -/
import Derived.Test.YtacmiopopcdofaaF2
set_option linter.unusedVariables false
set_option linter.unusedSimpArgs false
namespace Go.AW.Frm
open Go Go.AW Go.Proofs
open Go.AW.Crc
set_option maxRecDepth 10000
set_option pp.maxSteps 600

theorem splR_bytes (l : List UInt8) (lo : Nat) (c : List UInt8) : splR (bytesR l) lo (bytesR c) = bytesR (splL l lo c) := by
  simp only [splR, splL, bytesR, List.length_map, List.map_append, List.map_take, List.map_drop]
theorem splL_mid (a x c r : List UInt8) (n : Nat) (hn : n = a.length) (h : x.length = c.length) : splL (a ++ x ++ r) n c = a ++ c ++ r := by
  subst hn
  unfold splL
  rw [List.append_assoc a x r, List.take_left, ← List.append_assoc a x r]
  rw [show a.length + c.length = (a ++ x).length by rw [List.length_append, h], List.drop_left]
theorem splL_len (l : List UInt8) (lo : Nat) (c : List UInt8) (h : lo + c.length ≤ l.length) : (splL l lo c).length = l.length := by
  unfold splL
  rw [List.length_append, List.length_append, List.length_take, List.length_drop]; omega

/-- A record: its sum, its payload's length, its payload. -/
def body (p : List UInt8) : List UInt8 := be4 (BitVec.ofNat 32 p.length) ++ p
def recB (p : List UInt8) : List UInt8 := be4 (more 0 (body p)) ++ body p
theorem recB_len (p : List UInt8) : (recB p).length = 8 + p.length := by
  unfold recB body
  rw [List.length_append, List.length_append, be4_len, be4_len]; omega
def putT (b p : List UInt8) : T := if p.length > 4096 then .tup [.lit (.slice none 0 0), i64 3] else .tup [.sl none 1 (bytesR (b ++ recB p)), i64 0]

theorem put_law (b p : List UInt8) (hb : b.length ≤ 1000000000) (hp : p.length ≤ reachBytes) : FCv Try.prog 11 [.sl none 1 (bytesR b), .sl none 1 (bytesR p)] (putT b p) := by
  have hrb : reachBytes = 140737488351232 := rfl
  refine FCv_of_awp (fn := Try.f11) (c := bodyC Try.f11) Try.func11 rfl (of_decide_eq_true rfl) [17, 1000018] ?_
  conv => whnf
  refine br_intro (fun h => ?_) (fun h => ?_)
  · rw [h]
    have h1 := of_decide_eq_true h
    rw [bytesR_len] at h1
    conv => whnf
    unfold putT
    rw [if_pos (by omega)]
    exact ⟨Or.inl rfl, Or.inl rfl, trivial⟩
  rw [h]
  have h1 := of_decide_eq_false h
  rw [bytesR_len] at h1
  conv => whnf
  obtain ⟨n, hn⟩ : ∃ n, n = b.length := ⟨_, rfl⟩
  obtain ⟨k, hk⟩ : ∃ k, k = p.length := ⟨_, rfl⟩
  have e1 : IntKind.i64.wrap (IntKind.i64.wrap (((bytesR b).length : Int) + 8) + ((bytesR p).length : Int)) = ((n + 8 + k : Nat) : Int) := by
    rw [bytesR_len, bytesR_len, wrap_i64 ((b.length : Int) + 8) (by omega) (by omega), wrap_i64 _ (by omega) (by omega)]; omega
  rw [e1]
  refine ⟨⟨by omega, by omega, by omega, by show ((n + 8 + k : Nat) : Int) * 1 ≤ _; omega⟩, ?_⟩
  conv => whnf
  have hz : List.replicate (n + 8 + k) (List.map T.lit (Value.int IntKind.u8 0).cells.toList) = bytesR (List.replicate (n + 8 + k) 0) := (bytesR_zeros _).symm
  have hL1 : splL (List.replicate (n + 8 + k) 0) 0 b = b ++ List.replicate (8 + k) 0 := by
    have := splL_mid [] (List.replicate n 0) b (List.replicate (8 + k) 0) 0 rfl (by rw [List.length_replicate, hn])
    rw [List.nil_append, List.nil_append, List.replicate_append_replicate, ← Nat.add_assoc] at this
    exact this
  rw [Int.toNat_natCast, hz, splR_bytes, hL1]
  refine ⟨⟨bytesR_bvN b, by rw [bytesR_len]; omega, by rw [bytesR_len, List.length_replicate]; omega⟩, ?_⟩
  conv => whnf
  have e2 : IntKind.i64.wrap (((bytesR b).length : Int) + 4) = ((n + 4 : Nat) : Int) := by rw [bytesR_len, wrap_i64 _ (by omega) (by omega)]; omega
  rw [e2]
  refine ⟨by omega, ?_⟩
  conv => whnf
  rw [Int.toNat_natCast]
  refine ⟨⟨by omega, by omega⟩, ?_⟩
  conv => whnf
  have e3 : IntKind.u32.wrap ((bytesR p).length : Int) = ((BitVec.ofNat 32 p.length).toNat : Int) := by
    rw [bytesR_len, wrap_mod .u32 rfl, BitVec.toNat_ofNat]; rfl
  rw [e3]
  have hL2 : splL (b ++ List.replicate (8 + k) 0) (0 + (n + 4)) (be4 (BitVec.ofNat 32 p.length)) = b ++ List.replicate 4 0 ++ be4 (BitVec.ofNat 32 p.length) ++ List.replicate k 0 := by
    rw [← splL_mid (b ++ List.replicate 4 0) (List.replicate 4 0) (be4 (BitVec.ofNat 32 p.length)) (List.replicate k 0) (0 + (n + 4)) (by rw [List.length_append, List.length_replicate]; omega) rfl]
    congr 1
    rw [show 8 + k = 4 + (4 + k) by omega, ← List.replicate_append_replicate, ← List.replicate_append_replicate]
    simp only [List.append_assoc]
  have p1 := put4_law (BitVec.ofNat 32 p.length) (b ++ List.replicate (8 + k) 0) (0 + (n + 4)) (n + 8 + k - (n + 4)) (by omega) (by rw [List.length_append, List.length_replicate]; omega)
  rw [hL2] at p1
  refine ⟨[0], _, _, _, _, [(0, .own 1 (bytesR (b ++ List.replicate 4 0 ++ be4 (BitVec.ofNat 32 p.length) ++ List.replicate k 0)))], _, p1, ⟨rfl, ⟨rfl, trivial⟩, rfl, rfl, ⟨⟨rfl, by rw [renB_bytes]; rfl, domB_bytes _ _⟩, trivial⟩, rfl, rfl, ⟨⟨rfl, rfl, renB_bytes _ _, domB_bytes _ _⟩, trivial⟩⟩, ?_⟩
  conv => whnf
  have e4 : IntKind.i64.wrap (((bytesR b).length : Int) + 8) = ((n + 8 : Nat) : Int) := by rw [bytesR_len, wrap_i64 _ (by omega) (by omega)]; omega
  rw [e4]
  refine ⟨by omega, ?_⟩
  conv => whnf
  rw [Int.toNat_natCast]
  refine ⟨⟨by omega, by omega⟩, ?_⟩
  conv => whnf
  have hL3 : splL (b ++ List.replicate 4 0 ++ be4 (BitVec.ofNat 32 p.length) ++ List.replicate k 0) (0 + (n + 8)) p = b ++ List.replicate 4 0 ++ body p := by
    have := splL_mid (b ++ List.replicate 4 0 ++ be4 (BitVec.ofNat 32 p.length)) (List.replicate k 0) p [] (0 + (n + 8)) (by rw [List.length_append, List.length_append, List.length_replicate, be4_len]; omega) (by rw [List.length_replicate, hk])
    rw [List.append_nil, List.append_nil] at this
    rw [this, body]
    simp only [List.append_assoc]
  rw [splR_bytes, hL3]
  refine ⟨⟨bytesR_bvN p, by rw [bytesR_len]; omega, by rw [bytesR_len]; simp only [List.length_append, List.length_replicate, be4_len]; omega⟩, ?_⟩
  conv => whnf
  refine ⟨by omega, ?_⟩
  conv => whnf
  rw [Int.toNat_natCast, bytesR_len]
  refine ⟨⟨by omega, by omega⟩, ?_⟩
  conv => whnf
  rw [show IntKind.i64.wrap ((b.length : Int) + 4) = ((n + 4 : Nat) : Int) from by rw [← e2, bytesR_len]]
  refine ⟨by omega, ?_⟩
  conv => whnf
  rw [Int.toNat_natCast]
  refine ⟨⟨by omega, by omega⟩, ?_⟩
  conv => whnf
  have hblen : (body p).length = 4 + k := by unfold body; rw [List.length_append, be4_len, hk]
  have cut : List.take (n + 8 + k - (n + 4)) (List.drop (0 + (n + 4)) (bytesR (b ++ List.replicate 4 0 ++ body p))) = bytesR (body p) := by
    rw [bytesR_drop, show 0 + (n + 4) = (b ++ List.replicate 4 0).length by rw [List.length_append, List.length_replicate]; omega, List.drop_left, List.take_of_length_le (by rw [bytesR_len]; omega)]
  have sm : FCv Try.prog 19 [.sl none 1 (List.take (n + 8 + k - (n + 4)) (List.drop (0 + (n + 4)) (bytesR (b ++ List.replicate 4 0 ++ body p))))] (u32 (more 0 (body p))) := by
    rw [cut]
    exact sum_law (body p) (by omega)
  refine ⟨⟨by rw [bytesR_len]; simp only [List.length_append, List.length_replicate, hblen]; omega, by rw [cut]; exact bytesR_bvN _⟩, ?_⟩
  conv => whnf
  refine ⟨_, sm, ?_⟩
  conv => whnf
  have hL4 : splL (b ++ List.replicate 4 0 ++ body p) (0 + b.length) (be4 (more 0 (body p))) = b ++ recB p := by
    rw [splL_mid b (List.replicate 4 0) (be4 (more 0 (body p))) (body p) (0 + b.length) (by omega) rfl, recB, List.append_assoc]
  have p2 := put4_law (more 0 (body p)) (b ++ List.replicate 4 0 ++ body p) (0 + b.length) (n + 8 + k - b.length) (by omega) (by simp only [List.length_append, List.length_replicate, hblen]; omega)
  rw [hL4] at p2
  refine ⟨[0], _, _, _, _, [(0, .own 1 (bytesR (b ++ recB p)))], _, p2, ⟨rfl, ⟨rfl, trivial⟩, rfl, rfl, ⟨⟨rfl, by rw [renB_bytes]; rfl, domB_bytes _ _⟩, trivial⟩, rfl, rfl, ⟨⟨rfl, rfl, renB_bytes _ _, domB_bytes _ _⟩, trivial⟩⟩, ?_⟩
  conv => whnf
  unfold putT
  rw [if_neg (by omega)]
  have hall : (bytesR (b ++ recB p)).length = n + 8 + k := by rw [bytesR_len, List.length_append, recB_len]; omega
  refine ⟨⟨⟨by rw [hall]; omega, ?_⟩, Or.inl ?_⟩, Or.inl rfl, trivial⟩
  · rw [List.drop_zero, List.take_of_length_le (by rw [hall]; exact Nat.le_refl _)]; exact bytesR_bvN _
  · rw [List.drop_zero, List.take_of_length_le (by rw [hall]; exact Nat.le_refl _)]
end Go.AW.Frm
