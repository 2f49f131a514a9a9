/- Frames: records read back; the helpers are awake. -/
import Derived.Test.YtacmiopopcdofaaF6
set_option linter.unusedVariables false
set_option linter.unusedSimpArgs false
namespace Go.AW.Frm
open Go Go.AW Go.Proofs
open Go.AW.Crc
set_option maxRecDepth 10000
set_option pp.maxSteps 600

theorem first_rec (p t : List UInt8) (hp : p.length ≤ 4096) : first (recB p ++ t) = some p := by
  have hlen : (recB p ++ t).length = 8 + p.length + t.length := by rw [List.length_append, recB_len]
  have hd4 : (recB p ++ t).drop 4 = body p ++ t := by
    rw [recB, List.append_assoc, List.drop_left' (be4_len _)]
  have hr : rd4 ((recB p ++ t).drop 4) = p.length := by
    rw [hd4, body, List.append_assoc, rd4_be4, BitVec.toNat_ofNat]; omega
  have hr0 : rd4 (recB p ++ t) = (more 0 (body p)).toNat := by rw [recB, List.append_assoc, rd4_be4]
  have hb : (body p).length = 4 + p.length := by rw [body, List.length_append, be4_len]
  have ht : ((recB p ++ t).drop 4).take (4 + p.length) = body p := by rw [hd4, List.take_left' hb]
  have h8 : ((recB p ++ t).drop 8).take p.length = p := by
    rw [show 8 = 4 + 4 from rfl, ← List.drop_drop, hd4, body, List.append_assoc, List.drop_left' (be4_len _), List.take_left' rfl]
  unfold first
  rw [hr, hr0, ht, if_neg (by omega), if_neg (by omega), if_neg (by omega), if_pos rfl, h8]
theorem scan_cat : ∀ (l : List (List UInt8)) (t : List UInt8), (∀ p ∈ l, p.length ≤ 4096) → scan (cat l ++ t) = l ++ scan t
  | [], t, _ => rfl
  | p :: r, t, h => by
    have hf := first_rec p (cat r ++ t) (h p List.mem_cons_self)
    rw [← List.append_assoc] at hf
    have hs := scan_some hf
    rw [cat, hs, List.append_assoc, List.drop_left' (recB_len p), scan_cat r t (fun q hq => h q (List.mem_cons_of_mem _ hq))]
    rfl
theorem scan_short {t : List UInt8} (h : t.length < 8) : scan t = [] := scan_none (by unfold first; rw [if_pos h])
theorem sizeOf_scan (s : List UInt8) : ∀ f, size (scanF f s) ≤ s.length := by
  intro f
  induction f generalizing s with
  | zero => simp [scanF, size]
  | succ f ih =>
    simp only [scanF]
    cases e : first s with
    | none => simp [size]
    | some p =>
      have := first_len e
      have := ih (s.drop (8 + p.length))
      rw [List.length_drop] at this
      simp only [size]
      omega
theorem size_scan (s : List UInt8) : size (scan s) ≤ s.length := sizeOf_scan s _

theorem recB_nil : recB [] = [33, 68, 223, 28, 0, 0, 0, 0] := by decide +kernel

theorem awake_law : FCv Try.prog 10 [] (tb true) := by
  obtain ⟨Z, hZ⟩ : ∃ Z, Z = recB [] := ⟨_, rfl⟩
  obtain ⟨R, hR⟩ : ∃ R, R = Z ++ recB [97, 98] := ⟨_, rfl⟩
  have hZl : Z.length = 8 := by rw [hZ, recB_len]; rfl
  have hlen : R.length = 18 := by rw [hR, List.length_append, hZl, recB_len]; rfl
  have hsc : scan (R ++ [7]) = [[], [97, 98]] := by
    have := scan_cat [[], [97, 98]] [7] (by decide)
    rw [scan_short (t := [7]) (by decide), List.append_nil] at this
    rw [hR, hZ, ← this]
    simp only [cat, List.append_nil]
  have p1 : FCv Try.prog 11 [.lit (.slice none 0 0), .lit (.slice none 0 0)] (.tup [.sl none 1 (bytesR Z), i64 0]) := by
    have := put_law [] [] (by decide) (by decide)
    unfold putT at this
    rw [if_neg (by decide), List.nil_append, ← hZ] at this
    exact this.weak ⟨.nil 1, .nil 1, trivial⟩
  have p2 : FCv Try.prog 11 [.sl none 1 (bytesR Z), .sl none 1 (bytesR [97, 98])] (.tup [.sl none 1 (bytesR R), i64 0]) := by
    have := put_law Z [97, 98] (by rw [hZl]; decide) (by decide)
    unfold putT at this
    rw [if_neg (by decide), ← hR] at this
    exact this
  have s1 : FCv Try.prog 13 [.sl none 1 (bytesR (R ++ [7]))] (.tup [.sl none 1 (recsR [[], [97, 98]]), i64 18]) := by
    have := scan_law (R ++ [7]) (by rw [List.length_append, hlen]; decide)
    rw [hsc] at this
    exact this
  rw [← bytesR_append] at s1
  have hZ2 : Z = [33, 68, 223, 28, 0, 0, 0, 0] := hZ.trans recB_nil
  have n1 : (Try.prog.types[5]).bytes = 1 := rfl
  clear hsc hR hZ
  refine FCv_of_awp (fn := Try.f10) (c := bodyC Try.f10) Try.func10 rfl (of_decide_eq_true rfl) [] ?_
  conv => whnf
  refine ⟨_, p1, ?_⟩
  conv => whnf
  refine ⟨rfl, by decide, ?_⟩
  conv => whnf
  refine ⟨_, p2, ?_⟩
  conv => whnf
  refine ⟨rfl, by rw [n1, bytesR_len, hlen]; decide, by rw [bytesR_len, hlen]; decide, ?_⟩
  conv => whnf
  refine ⟨?_, ?_, ?_, ?_⟩
  · simp only [List.length_append]
  · rw [n1, List.length_append, bytesR_len, hlen]; decide
  · rw [List.length_append, bytesR_len, hlen]; decide
  conv => whnf
  refine ⟨_, s1, ?_⟩
  conv => whnf
  refine ⟨Z, ⟨rfl, rfl⟩, ?_⟩
  conv => whnf
  have hc : (ByteArray.toList ⟨Z.toArray⟩ == ByteArray.toList ⟨#[33, 68, 223, 28, 0, 0, 0, 0]⟩) = true := by rw [hZ2]; simp
  rw [hc]
  conv => whnf
  refine ⟨by omega, nthK_intro (recsR_get (p := []) rfl) ?_⟩
  conv => whnf
  refine ⟨by omega, nthK_intro (recsR_get (p := [97, 98]) rfl) ?_⟩
  conv => whnf
  refine ⟨[97, 98], ⟨rfl, rfl⟩, ?_⟩
  conv => whnf
  exact Or.inl (congrArg tb (beq_self_eq_true _))
end Go.AW.Frm
