import Derived.Test.YtmobiphgmdigjaaWirP1
import Derived.Test.YtmobiphgmdigjaaNamN1
import Derived.Test.YtmobiphgmdigjaaAw32
/- Commands and replies, and their bytes; plain. -/
set_option linter.unusedVariables false
set_option linter.unusedSimpArgs false
namespace Go.AW.Cm
open Go Go.AW Go.AW.Wir Go.Lib

theorem width4 (l : List UInt8) : (decodeL l).2 ≤ 4 := by
  rw [decodeL_N]
  rcases decodeN_shape l.length (l.getD 0 0).toNat (l.getD 1 0).toNat (l.getD 2 0).toNat (l.getD 3 0).toNat with ⟨_, e⟩ | ⟨_, _, _, _, e⟩ | ⟨_, _, _, _, _, _, e⟩ | ⟨_, _, _, _, _, _, _, e⟩ | e <;> rw [e] <;> dsimp only <;> omega
theorem segs_len4 (l : List UInt8) : l.length ≤ 4 * (Nam.segs l).length := by
  refine Nam.seg_ind (motive := fun l => l.length ≤ 4 * (Nam.segs l).length) ?_ ?_ l
  · exact Nat.zero_le _
  · intro l hne ih
    rw [Nam.segs_cons hne, List.length_cons]
    have := width4 l
    rw [List.length_drop] at ih
    omega
theorem may_size {l : List UInt8} (h : Nam.may l = true) : l.length ≤ 96 := by
  have h1 := segs_len4 l
  unfold Nam.may Nam.mayG at h
  simp only [Bool.and_eq_true, decide_eq_true_eq] at h
  omega

structure Cmd where
  op : Int
  name : List UInt8
  of : List UInt8
  v : V
  n : Int
structure Rep where
  e : Int
  s : List UInt8
  v : V
  n : Int
def in64 (n : Int) : Prop := -9223372036854775808 ≤ n ∧ n ≤ 9223372036854775807
def inVec (v : V) : Prop := in64 v.1 ∧ in64 v.2.1 ∧ in64 v.2.2
def inCmd (c : Cmd) : Prop := in64 c.op ∧ c.name.length ≤ 9223372036854775806 ∧ c.of.length ≤ 9223372036854775806 ∧ inVec c.v ∧ in64 c.n
def inRep (r : Rep) : Prop := in64 r.e ∧ inVec r.v ∧ in64 r.n
def mayV (v : V) : Bool := decide (0 ≤ v.1) && decide (0 ≤ v.2.1) && decide (0 ≤ v.2.2)
def two (c : Cmd) : Prop := c.op = 5 ∨ c.op = 7
def much (c : Cmd) : Prop := c.op = 1 ∨ c.op = 4 ∨ c.op = 5
instance (c : Cmd) : Decidable (two c) := inferInstanceAs (Decidable (_ ∨ _))
instance (c : Cmd) : Decidable (much c) := inferInstanceAs (Decidable (_ ∨ _))
def ofB (c : Cmd) : Bool := if two c then Nam.may c.of else decide (c.of = [])
def vB (c : Cmd) : Bool := if much c then mayV c.v else eqV c.v (0, 0, 0)
def nB (c : Cmd) : Bool := if c.op = 2 then decide (c.n = 0 ∨ c.n = 1) else if c.op = 7 then decide (c.n = 1 ∨ c.n = 2) else decide (c.n = 0)
/-- Has a command its form? -/
def mayC (c : Cmd) : Bool := decide (1 ≤ c.op ∧ c.op ≤ 10) && (Nam.may c.name && (ofB c && (vB c && nB c)))
def asksC (c : Cmd) : Bool := mayC c && decide (8 ≤ c.op)
def mayR (r : Rep) : Bool := decide (0 ≤ r.e) && (decide (r.e ≤ 255) && decide (r.s.length ≤ 1000))
def numI (n : Int) : It := .mk 1 n [] []
def strI (s : List UInt8) : It := .mk 2 0 s []
def vecI (v : V) : It := .mk 3 0 [] [numI v.1, numI v.2.1, numI v.2.2]
def itemC (c : Cmd) : It := .mk 3 0 [] [numI c.op, strI c.name, strI c.of, vecI c.v, numI c.n]
def itemR (r : Rep) : It := .mk 3 0 [] [numI r.e, strI r.s, vecI r.v, numI r.n]
theorem vI_num (n : Int) : vI (numI n) = .num n := by unfold numI; rw [vI, if_pos ⟨rfl, rfl, rfl⟩]
theorem vI_str (s : List UInt8) : vI (strI s) = .txt s := by unfold strI; rw [vI, if_neg (by simp), if_pos ⟨rfl, rfl, rfl⟩]
theorem cntB3 : cntB 3 = [1, 3] := by rfl
theorem cntB4 : cntB 4 = [1, 4] := by rfl
theorem cntB5 : cntB 5 = [1, 5] := by rfl
def vecB (v : V) : List UInt8 := 3 :: 1 :: 3 :: (1 :: cntB (zig v.1) ++ (1 :: cntB (zig v.2.1) ++ (1 :: cntB (zig v.2.2) ++ [])))
theorem enV_vec (v : V) : enV (vI (vecI v)) = some (vecB v) := by
  unfold vecI
  rw [vI_row, vL, vL, vL, vL, vI_num, vI_num, vI_num, enV, enL, enV, enL, enV, enL, enV, enL]
  simp only [List.length_cons, List.length_nil, Nat.zero_add, Nat.reduceAdd, cntB3]
  rfl
def bytesC (c : Cmd) : List UInt8 := 3 :: 1 :: 5 :: (1 :: cntB (zig c.op) ++ (2 :: cntB c.name.length ++ c.name ++ (2 :: cntB c.of.length ++ c.of ++ (vecB c.v ++ (1 :: cntB (zig c.n) ++ [])))))
def bytesRp (r : Rep) : List UInt8 := 3 :: 1 :: 4 :: (1 :: cntB (zig r.e) ++ (2 :: cntB r.s.length ++ r.s ++ (vecB r.v ++ (1 :: cntB (zig r.n) ++ []))))
theorem enV_cmd (c : Cmd) : enV (vI (itemC c)) = some (bytesC c) := by
  unfold itemC
  rw [vI_row, vL, vL, vL, vL, vL, vL, vI_num, vI_str, vI_str, vI_num, enV, enL, enV, enL, enV, enL, enV, enL, enV_vec, enL, enV, enL]
  simp only [List.length_cons, List.length_nil, Nat.zero_add, Nat.reduceAdd, cntB5]
  rfl
theorem enV_rep (r : Rep) : enV (vI (itemR r)) = some (bytesRp r) := by
  unfold itemR
  rw [vI_row, vL, vL, vL, vL, vL, vI_num, vI_str, vI_num, enV, enL, enV, enL, enV, enL, enV_vec, enL, enV, enL]
  simp only [List.length_cons, List.length_nil, Nat.zero_add, Nat.reduceAdd, cntB4]
  rfl
theorem n_num (n : Int) : nI (numI n) = 1 ∧ dI (numI n) = 1 ∧ bigI (numI n) = false := ⟨by unfold numI; rw [nI, nL], by unfold numI; rw [dI, dL], by unfold numI; rw [bigI, bigL]; rfl⟩
theorem n_str {s : List UInt8} (h : s.length ≤ 4096) : nI (strI s) = 1 ∧ dI (strI s) = 1 ∧ bigI (strI s) = false := ⟨by unfold strI; rw [nI, nL], by unfold strI; rw [dI, dL], by unfold strI; rw [bigI, bigL, decide_eq_false (by omega)]; rfl⟩
theorem n_vec (v : V) : nI (vecI v) = 4 ∧ dI (vecI v) = 2 ∧ bigI (vecI v) = false := by
  obtain ⟨a1, a2, a3⟩ := n_num v.1
  obtain ⟨b1, b2, b3⟩ := n_num v.2.1
  obtain ⟨c1, c2, c3⟩ := n_num v.2.2
  unfold vecI
  refine ⟨by rw [nI, nL, nL, nL, nL, a1, b1, c1], by rw [dI, dL, dL, dL, dL, a2, b2, c2]; rfl, by rw [bigI, bigL, bigL, bigL, bigL, a3, b3, c3]; rfl⟩
theorem okc_cmd {c : Cmd} (h1 : c.name.length ≤ 4096) (h2 : c.of.length ≤ 4096) : okc (itemC c) 1 4096 := by
  obtain ⟨a1, a2, a3⟩ := n_num c.op
  obtain ⟨b1, b2, b3⟩ := n_str h1
  obtain ⟨c1, c2, c3⟩ := n_str h2
  obtain ⟨d1, d2, d3⟩ := n_vec c.v
  obtain ⟨e1, e2, e3⟩ := n_num c.n
  unfold itemC okc
  rw [nI, nL, nL, nL, nL, nL, nL, a1, b1, c1, d1, e1, dI, dL, dL, dL, dL, dL, dL, a2, b2, c2, d2, e2, bigI, bigL, bigL, bigL, bigL, bigL, bigL, a3, b3, c3, d3, e3]
  exact ⟨by decide, by decide, by simp⟩
theorem okc_rep {r : Rep} (h1 : r.s.length ≤ 4096) : okc (itemR r) 1 4096 := by
  obtain ⟨a1, a2, a3⟩ := n_num r.e
  obtain ⟨b1, b2, b3⟩ := n_str h1
  obtain ⟨d1, d2, d3⟩ := n_vec r.v
  obtain ⟨e1, e2, e3⟩ := n_num r.n
  unfold itemR okc
  rw [nI, nL, nL, nL, nL, nL, a1, b1, d1, e1, dI, dL, dL, dL, dL, dL, a2, b2, d2, e2, bigI, bigL, bigL, bigL, bigL, bigL, a3, b3, d3, e3]
  exact ⟨by decide, by decide, by simp⟩
theorem mayC_iff {c : Cmd} : mayC c = true ↔ (1 ≤ c.op ∧ c.op ≤ 10) ∧ Nam.may c.name = true ∧ ofB c = true ∧ vB c = true ∧ nB c = true := by
  unfold mayC
  simp only [Bool.and_eq_true, decide_eq_true_eq]
theorem mayC_len {c : Cmd} (h : mayC c = true) : c.name.length ≤ 96 ∧ c.of.length ≤ 96 := by
  obtain ⟨_, h1, h2, _⟩ := mayC_iff.1 h
  refine ⟨may_size h1, ?_⟩
  unfold ofB at h2
  split at h2
  · exact may_size h2
  · have := of_decide_eq_true h2; rw [this]; exact Nat.zero_le _
theorem mayR_iff {r : Rep} : mayR r = true ↔ 0 ≤ r.e ∧ r.e ≤ 255 ∧ r.s.length ≤ 1000 := by
  unfold mayR
  simp only [Bool.and_eq_true, decide_eq_true_eq]
theorem encode_cmd {c : Cmd} (h : mayC c = true) : encode (itemC c) = (bytesC c, 0) := enc_of (okc_cmd (by have := mayC_len h; omega) (by have := mayC_len h; omega)) (enV_cmd c)
theorem encode_rep {r : Rep} (h : mayR r = true) : encode (itemR r) = (bytesRp r, 0) := enc_of (okc_rep (by have := mayR_iff.1 h; omega)) (enV_rep r)
theorem in_num {n : Int} (h : in64 n) : inI (numI n) := by unfold numI; rw [inI, inIs]; exact ⟨⟨h, by simp⟩, trivial⟩
theorem in_str (s : List UInt8) : inI (strI s) := by unfold strI; rw [inI, inIs]; exact ⟨⟨by decide, by simp⟩, trivial⟩
theorem in_vec {v : V} (h : inVec v) : inI (vecI v) := by
  unfold vecI
  rw [inI, inIs, inIs, inIs, inIs]
  exact ⟨⟨by decide, by simp⟩, in_num h.1, in_num h.2.1, in_num h.2.2, trivial⟩
theorem in_cmd {c : Cmd} (h : inCmd c) : inI (itemC c) := by
  unfold itemC
  rw [inI, inIs, inIs, inIs, inIs, inIs, inIs]
  exact ⟨⟨by decide, by simp⟩, in_num h.1, in_str _, in_str _, in_vec h.2.2.2.1, in_num h.2.2.2.2, trivial⟩
theorem in_rep {r : Rep} (h : inRep r) : inI (itemR r) := by
  unfold itemR
  rw [inI, inIs, inIs, inIs, inIs, inIs]
  exact ⟨⟨by decide, by simp⟩, in_num h.1, in_str _, in_vec h.2.1, in_num h.2.2, trivial⟩
/-- A command's bytes, or that it has none. -/
def encC (c : Cmd) : List UInt8 × Int := if mayC c = true then (bytesC c, 0) else ([], 4)
def encR (r : Rep) : List UInt8 × Int := if mayR r = true then (bytesRp r, 0) else ([], 4)
def zeroC : Cmd := ⟨0, [], [], (0, 0, 0), 0⟩
def zeroR : Rep := ⟨0, [], (0, 0, 0), 0⟩

def toN : It → Option Int
  | .mk k n _ _ => if k = 1 then some n else none
def toS : It → Option (List UInt8)
  | .mk k _ s _ => if k = 2 then some s else none
def toV : It → Option V
  | .mk k _ _ [a, b, c] => if k = 3 then (match toN a, toN b, toN c with | some x, some y, some z => some (x, y, z) | _, _, _ => none) else none
  | _ => none
def small (n : Int) : Prop := -2147483648 ≤ n ∧ n ≤ 2147483647
instance (n : Int) : Decidable (small n) := inferInstanceAs (Decidable (_ ∧ _))
def toC : It → Option Cmd
  | .mk k _ _ [a, b, c, d, e] => if k = 3 then (match toN a, toS b, toS c, toV d, toN e with | some op, some nm, some o, some v, some n => if small op then some ⟨op, nm, o, v, n⟩ else none | _, _, _, _, _ => none) else none
  | _ => none
def toR : It → Option Rep
  | .mk k _ _ [a, b, c, d] => if k = 3 then (match toN a, toS b, toV c, toN d with | some e, some s, some v, some n => if small e then some ⟨e, s, v, n⟩ else none | _, _, _, _ => none) else none
  | _ => none
/-- The command that some bytes are. -/
def decC (s : List UInt8) : Cmd × Int := if (decode s).2 = 0 then (match toC (decode s).1 with | some c => if mayC c = true then (c, 0) else (zeroC, 4) | none => (zeroC, 4)) else (zeroC, 4)
def decR (s : List UInt8) : Rep × Int := if (decode s).2 = 0 then (match toR (decode s).1 with | some c => if mayR c = true then (c, 0) else (zeroR, 4) | none => (zeroR, 4)) else (zeroR, 4)

theorem toN_num (n : Int) : toN (numI n) = some n := rfl
theorem toS_str (s : List UInt8) : toS (strI s) = some s := rfl
theorem toV_vec (v : V) : toV (vecI v) = some v := rfl
theorem toC_item {c : Cmd} (h : small c.op) : toC (itemC c) = some c := by
  unfold itemC
  simp only [toC, toN_num, toS_str, toV_vec, if_pos h, if_true]
theorem toR_item {r : Rep} (h : small r.e) : toR (itemR r) = some r := by
  unfold itemR
  simp only [toR, toN_num, toS_str, toV_vec, if_pos h, if_true]
/-- What has bytes, and is read as a number, is that number. -/
theorem fm_num {i : It} {n : Int} (hf : (enV (vI i)).isSome = true) (h : toN i = some n) : i = numI n := by
  obtain ⟨k, m, s, l⟩ := i
  rw [show toN (.mk k m s l) = if k = 1 then some m else none from rfl] at h
  split at h
  · rename_i hk
    cases h
    subst hk
    rw [vI] at hf
    split at hf
    · rename_i hc
      obtain ⟨_, rfl, rfl⟩ := hc
      rfl
    · rw [if_neg (by simp), if_pos (by simp), enV] at hf; cases hf
  · cases h
theorem fm_str {i : It} {t : List UInt8} (hf : (enV (vI i)).isSome = true) (h : toS i = some t) : i = strI t := by
  obtain ⟨k, m, s, l⟩ := i
  rw [show toS (.mk k m s l) = if k = 2 then some s else none from rfl] at h
  split at h
  · rename_i hk
    cases h
    subst hk
    rw [vI, if_neg (by simp)] at hf
    split at hf
    · rename_i hc
      obtain ⟨_, rfl, rfl⟩ := hc
      rfl
    · rw [if_pos (by simp), enV] at hf; cases hf
  · cases h
theorem fm_row {k n : Int} {s : List UInt8} {l : List It} (hk : k = 3) (hf : (enV (vI (.mk k n s l))).isSome = true) : n = 0 ∧ s = [] ∧ ∀ i ∈ l, (enV (vI i)).isSome = true := by
  subst hk
  rw [vI, if_neg (by simp), if_neg (by simp)] at hf
  split at hf
  · rw [enV] at hf; cases hf
  · rename_i hc
    simp only [not_or, Classical.not_not] at hc
    refine ⟨hc.2.1, hc.2.2, ?_⟩
    rw [enV] at hf
    have key : ∀ l : List It, (enL (vL l)).isSome = true → ∀ i ∈ l, (enV (vI i)).isSome = true := by
      intro l
      induction l with
      | nil => intro _ i hi; cases hi
      | cons a r ih =>
        intro h i hi
        rw [vL, enL] at h
        cases ha : enV (vI a) with
        | none => rw [ha] at h; cases h
        | some x =>
          cases hr : enL (vL r) with
          | none => rw [ha, hr] at h; cases h
          | some y =>
            rcases List.mem_cons.1 hi with rfl | hi
            · rw [ha]; rfl
            · exact ih (by rw [hr]; rfl) i hi
    refine key l ?_
    cases h : enL (vL l) with
    | none => rw [h] at hf; cases hf
    | some x => rfl
theorem fm_vec {i : It} {v : V} (hf : (enV (vI i)).isSome = true) (h : toV i = some v) : i = vecI v := by
  unfold toV at h
  split at h
  · split at h
    · rename_i hk
      obtain ⟨rfl, rfl, hl⟩ := fm_row hk hf
      subst hk
      split at h
      · rename_i ha hb hc
        cases h
        rw [fm_num (hl _ (by simp)) ha, fm_num (hl _ (by simp)) hb, fm_num (hl _ (by simp)) hc]
        rfl
      · cases h
    · cases h
  · cases h
theorem fm_cmd {i : It} {c : Cmd} (hf : (enV (vI i)).isSome = true) (h : toC i = some c) : i = itemC c := by
  unfold toC at h
  split at h
  · split at h
    · rename_i hk
      obtain ⟨rfl, rfl, hl⟩ := fm_row hk hf
      subst hk
      split at h
      · rename_i ha hb hc hd he
        split at h
        · cases h
          rw [fm_num (hl _ (by simp)) ha, fm_str (hl _ (by simp)) hb, fm_str (hl _ (by simp)) hc, fm_vec (hl _ (by simp)) hd, fm_num (hl _ (by simp)) he]
          rfl
        · cases h
      · cases h
    · cases h
  · cases h
theorem fm_rep {i : It} {r : Rep} (hf : (enV (vI i)).isSome = true) (h : toR i = some r) : i = itemR r := by
  unfold toR at h
  split at h
  · split at h
    · rename_i hk
      obtain ⟨rfl, rfl, hl⟩ := fm_row hk hf
      subst hk
      split at h
      · rename_i ha hb hc hd
        split at h
        · cases h
          rw [fm_num (hl _ (by simp)) ha, fm_str (hl _ (by simp)) hb, fm_vec (hl _ (by simp)) hc, fm_num (hl _ (by simp)) hd]
          rfl
        · cases h
      · cases h
    · cases h
  · cases h
theorem decode_enc {s : List UInt8} (h : (decode s).2 = 0) : encode (decode s).1 = (s, 0) := by
  unfold decode at h ⊢
  split
  · rename_i hd; exact dec_enc hd
  · rename_i hd
    split at h
    · rename_i x y z hd'; exact absurd hd' (hd _ _)
    · exact absurd h (by decide)
theorem decode_form {s : List UInt8} (h : (decode s).2 = 0) : (enV (vI (decode s).1)).isSome = true := by
  have h1 := decode_enc h
  have h2 : (encode (decode s).1).2 = 0 := by rw [h1]
  rw [enc_eq h2]; rfl
theorem decode_item {i : It} {b : List UInt8} (hi : inI i) (h : encode i = (b, 0)) : decode b = (i, 0) := by
  have := enc_back hi h
  unfold decode
  rw [this]

theorem decC_or (s : List UInt8) : decC s = (zeroC, 4) ∨ (decC s).2 = 0 := by
  unfold decC
  split
  · split
    · split
      · exact .inr rfl
      · exact .inl rfl
    · exact .inl rfl
  · exact .inl rfl
/-- Bytes are a command's just where it has them. -/
theorem decC_item {s : List UInt8} {c : Cmd} (h : decC s = (c, 0)) : decode s = (itemC c, 0) ∧ mayC c = true := by
  unfold decC at h
  split at h
  · rename_i h0
    split at h
    · rename_i hc
      split at h
      · rename_i hm
        cases h
        have := fm_cmd (decode_form h0) hc
        exact ⟨Prod.ext this h0, hm⟩
      · cases h
    · cases h
  · cases h
theorem decC_enc {s : List UInt8} {c : Cmd} (h : decC s = (c, 0)) : encC c = (s, 0) := by
  obtain ⟨h1, h2⟩ := decC_item h
  have h3 := decode_enc (s := s) (by rw [h1])
  rw [h1] at h3
  unfold encC
  rw [if_pos h2, ← encode_cmd h2]
  exact h3
theorem encC_may {c : Cmd} {s : List UInt8} (h : encC c = (s, 0)) : mayC c = true ∧ s = bytesC c := by
  unfold encC at h
  split at h
  · rename_i hm; cases h; exact ⟨hm, rfl⟩
  · cases h
theorem encC_item {c : Cmd} {s : List UInt8} (hc : inCmd c) (h : encC c = (s, 0)) : decode s = (itemC c, 0) := by
  obtain ⟨h1, rfl⟩ := encC_may h
  exact decode_item (in_cmd hc) (encode_cmd h1)
theorem encC_dec {c : Cmd} {s : List UInt8} (hc : inCmd c) (h : encC c = (s, 0)) : decC s = (c, 0) := by
  have h1 := encC_item hc h
  obtain ⟨h2, _⟩ := encC_may h
  have h3 : small c.op := by have := (mayC_iff.1 h2).1; exact ⟨by omega, by omega⟩
  unfold decC
  rw [h1]
  dsimp only
  rw [if_pos rfl, toC_item h3]
  dsimp only
  rw [if_pos h2]
theorem decR_or (s : List UInt8) : decR s = (zeroR, 4) ∨ (decR s).2 = 0 := by
  unfold decR
  split
  · split
    · split
      · exact .inr rfl
      · exact .inl rfl
    · exact .inl rfl
  · exact .inl rfl
theorem decR_item {s : List UInt8} {c : Rep} (h : decR s = (c, 0)) : decode s = (itemR c, 0) ∧ mayR c = true := by
  unfold decR at h
  split at h
  · rename_i h0
    split at h
    · rename_i hc
      split at h
      · rename_i hm
        cases h
        have := fm_rep (decode_form h0) hc
        exact ⟨Prod.ext this h0, hm⟩
      · cases h
    · cases h
  · cases h
theorem decR_enc {s : List UInt8} {c : Rep} (h : decR s = (c, 0)) : encR c = (s, 0) := by
  obtain ⟨h1, h2⟩ := decR_item h
  have h3 := decode_enc (s := s) (by rw [h1])
  rw [h1] at h3
  unfold encR
  rw [if_pos h2, ← encode_rep h2]
  exact h3
theorem encR_may {c : Rep} {s : List UInt8} (h : encR c = (s, 0)) : mayR c = true ∧ s = bytesRp c := by
  unfold encR at h
  split at h
  · rename_i hm; cases h; exact ⟨hm, rfl⟩
  · cases h
theorem encR_item {c : Rep} {s : List UInt8} (hc : inRep c) (h : encR c = (s, 0)) : decode s = (itemR c, 0) := by
  obtain ⟨h1, rfl⟩ := encR_may h
  exact decode_item (in_rep hc) (encode_rep h1)
theorem encR_dec {c : Rep} {s : List UInt8} (hc : inRep c) (h : encR c = (s, 0)) : decR s = (c, 0) := by
  have h1 := encR_item hc h
  obtain ⟨h2, _⟩ := encR_may h
  have h3 : small c.e := by have := mayR_iff.1 h2; exact ⟨by omega, by omega⟩
  unfold decR
  rw [h1]
  dsimp only
  rw [if_pos rfl, toR_item h3]
  dsimp only
  rw [if_pos h2]
end Go.AW.Cm

/- Mails, and their bytes; plain. -/
set_option linter.unusedVariables false
set_option linter.unusedSimpArgs false
namespace Go.AW.Ml
open Go Go.AW Go.AW.Wir Go.AW.Cm

structure Entry where
  term : Int
  data : List UInt8
structure Job where
  name : List UInt8
  tenant : List UInt8
  v : V
  node : List UInt8
  status : Int
structure Mail where
  kind : Int
  term : Int
  a : Int
  b : Int
  c : Int
  d : Int
  l : List Entry
  si : Int
  st : Int
  sd : List UInt8
  j : List Job
abbrev big : Int := 4611686018427387904
def wi (n lo hi : Int) : Bool := decide (lo ≤ n) && decide (n ≤ hi)
def mayE (x : Entry) : Bool := wi x.term 1 big && decide (x.data.length ≤ 4000)
def mayJ (x : Job) : Bool := Nam.may x.name && (Nam.may x.tenant && (Nam.may x.node && (mayV x.v && wi x.status 0 2)))
/-- The bounds of a kind's A, B, C, D. -/
def spanA (k : Int) : Int × Int := if k = 2 ∨ k = 4 then (0, 1) else if k = 5 then (0, 0) else (0, big)
def spanB (k : Int) : Int × Int := if k = 1 ∨ k = 3 ∨ k = 4 then (0, big) else if k = 6 then (0, 1) else if k = 7 then (-1, 6) else (0, 0)
def spanC (k : Int) : Int × Int := if k = 3 then (0, big) else if k = 5 then (1, 127) else (0, 0)
def spanD (k : Int) : Int × Int := if k = 3 ∨ k = 4 ∨ k = 5 then (0, big) else (0, 0)
def inS (n : Int) (p : Int × Int) : Bool := wi n p.1 p.2
def mayL (m : Mail) : Bool := if m.kind = 3 then decide (m.l.length ≤ 16) && m.l.all mayE else decide (m.l = [])
def mayJs (m : Mail) : Bool := if 8 ≤ m.kind then decide (m.j.length ≤ 128) && m.j.all mayJ else decide (m.j = [])
def mayS (m : Mail) : Bool := if m.kind = 5 then wi m.si 1 big && (wi m.st 1 big && decide (m.sd.length ≤ 65536)) else if m.kind = 6 ∨ m.kind = 7 then decide (m.si = 0) && (decide (m.st = 0) && decide (m.sd.length ≤ 4000)) else decide (m.si = 0) && (decide (m.st = 0) && decide (m.sd = []))
/-- Has a mail its form? -/
def mayM (m : Mail) : Bool := wi m.kind 1 9 && (wi m.term 0 big && (inS m.a (spanA m.kind) && (inS m.b (spanB m.kind) && (inS m.c (spanC m.kind) && (inS m.d (spanD m.kind) && (mayL m && (mayS m && mayJs m)))))))
/-- A text in parts of 4096 bytes. -/
def chunksF : Nat → List UInt8 → List (List UInt8)
  | 0, _ => []
  | f + 1, l => if l = [] then [] else l.take 4096 :: chunksF f (l.drop 4096)
def chunks (l : List UInt8) : List (List UInt8) := chunksF l.length l
theorem chunksF_more : ∀ (f g : Nat) (l : List UInt8), l.length ≤ f → l.length ≤ g → chunksF f l = chunksF g l
  | 0, g, l, h, _ => by
    obtain rfl : l = [] := List.length_eq_zero_iff.1 (by omega)
    cases g <;> simp [chunksF]
  | f + 1, 0, l, _, h => by
    obtain rfl : l = [] := List.length_eq_zero_iff.1 (by omega)
    simp [chunksF]
  | f + 1, g + 1, l, h1, h2 => by
    simp only [chunksF]
    split
    · rfl
    · rename_i hne
      have : 0 < l.length := List.length_pos_iff.2 hne
      rw [chunksF_more f g (l.drop 4096) (by rw [List.length_drop]; omega) (by rw [List.length_drop]; omega)]
theorem chunks_nil : chunks [] = [] := rfl
theorem chunks_cons {l : List UInt8} (h : l ≠ []) : chunks l = l.take 4096 :: chunks (l.drop 4096) := by
  have hp : 0 < l.length := List.length_pos_iff.2 h
  obtain ⟨f, hf⟩ : ∃ f, l.length = f + 1 := ⟨l.length - 1, by omega⟩
  unfold chunks
  rw [hf]
  simp only [chunksF, if_neg h]
  rw [chunksF_more f (l.drop 4096).length _ (by rw [List.length_drop]; omega) (Nat.le_refl _)]
theorem chunk_ind {motive : List UInt8 → Prop} (nil : motive []) (cons : ∀ l, l ≠ [] → motive (l.drop 4096) → motive l) (l : List UInt8) : motive l := by
  have : ∀ (n : Nat) (l : List UInt8), l.length ≤ n → motive l := by
    intro n
    induction n with
    | zero => intro l h; obtain rfl : l = [] := List.length_eq_zero_iff.1 (by omega); exact nil
    | succ n ih =>
      intro l h
      by_cases hl : l = []
      · subst hl; exact nil
      · have : 0 < l.length := List.length_pos_iff.2 hl
        exact cons l hl (ih _ (by rw [List.length_drop]; omega))
  exact this _ l (Nat.le_refl _)
theorem chunks_flat (l : List UInt8) : (chunks l).flatten = l := by
  refine chunk_ind (motive := fun l => (chunks l).flatten = l) rfl (fun l h ih => ?_) l
  rw [chunks_cons h, List.flatten_cons, ih, List.take_append_drop]
theorem chunks_len (l : List UInt8) : 4096 * (chunks l).length ≤ l.length + 4095 := by
  refine chunk_ind (motive := fun l => 4096 * (chunks l).length ≤ l.length + 4095) (by simp [chunks_nil]) (fun l h ih => ?_) l
  rw [chunks_cons h, List.length_cons]
  rw [List.length_drop] at ih
  have : 0 < l.length := List.length_pos_iff.2 h
  by_cases h4 : 4096 ≤ l.length
  · omega
  · have : (chunks (l.drop 4096)) = [] := by rw [List.drop_of_length_le (by omega)]; rfl
    rw [this]; simp; omega
theorem chunks_mem (l : List UInt8) : ∀ x ∈ chunks l, x ≠ [] ∧ x.length ≤ 4096 := by
  refine chunk_ind (motive := fun l => ∀ x ∈ chunks l, x ≠ [] ∧ x.length ≤ 4096) (by simp [chunks_nil]) (fun l h ih => ?_) l
  rw [chunks_cons h]
  intro x hx
  rcases List.mem_cons.1 hx with rfl | hx
  · refine ⟨?_, by rw [List.length_take]; omega⟩
    intro e
    have := congrArg List.length e
    have h0 : 0 < l.length := List.length_pos_iff.2 h
    rw [List.length_take, List.length_nil] at this
    omega
  · exact ih x hx
/-- Parts that a text may have. -/
def goodCh : List (List UInt8) → Bool
  | [] => true
  | [x] => !x.isEmpty && decide (x.length ≤ 4096)
  | x :: y :: r => decide (x.length = 4096) && goodCh (y :: r)
theorem goodCh_cons {x y : List UInt8} {r : List (List UInt8)} : goodCh (x :: y :: r) = true ↔ x.length = 4096 ∧ goodCh (y :: r) = true := by
  simp [goodCh]
theorem good_chunks : ∀ c : List (List UInt8), goodCh c = true → chunks c.flatten = c
  | [], _ => rfl
  | [x], h => by
    simp only [goodCh, Bool.and_eq_true, decide_eq_true_eq, Bool.not_eq_true'] at h
    have hne : x ≠ [] := by intro e; subst e; simp at h
    rw [List.flatten_cons, List.flatten_nil, List.append_nil, chunks_cons hne, List.take_of_length_le h.2, List.drop_of_length_le h.2, chunks_nil]
  | x :: y :: r, h => by
    obtain ⟨h1, h2⟩ := goodCh_cons.1 h
    have hne : x ++ (y :: r).flatten ≠ [] := by intro e; rw [(List.append_eq_nil_iff.1 e).1] at h1; cases h1
    rw [List.flatten_cons, chunks_cons hne, ← h1, List.take_left, List.drop_left, good_chunks (y :: r) h2]
theorem chunks_good (l : List UInt8) : goodCh (chunks l) = true := by
  refine chunk_ind (motive := fun l => goodCh (chunks l) = true) rfl (fun l h ih => ?_) l
  rw [chunks_cons h]
  by_cases h4 : 4096 < l.length
  · have hne : l.drop 4096 ≠ [] := by intro e; have := congrArg List.length e; rw [List.length_drop, List.length_nil] at this; omega
    rw [chunks_cons hne] at ih ⊢
    exact goodCh_cons.2 ⟨by rw [List.length_take]; omega, ih⟩
  · rw [List.drop_of_length_le (by omega), chunks_nil, List.take_of_length_le (by omega)]
    simp only [goodCh, Bool.and_eq_true, decide_eq_true_eq, Bool.not_eq_true']
    exact ⟨by cases l with
      | nil => exact absurd rfl h
      | cons a r => rfl, by omega⟩

def rowI (l : List It) : It := .mk 3 0 [] l
def entI (x : Entry) : It := rowI [numI x.term, strI x.data]
def jobI (x : Job) : It := rowI [strI x.name, strI x.tenant, vecI x.v, strI x.node, numI x.status]
def itemM (m : Mail) : It := rowI [numI m.kind, numI m.term, numI m.a, numI m.b, numI m.c, numI m.d, rowI (m.l.map entI), numI m.si, numI m.st, rowI ((chunks m.sd).map strI), rowI (m.j.map jobI)]
theorem nL_le {c : Nat} : ∀ {l : List It}, (∀ i ∈ l, nI i ≤ c) → nL l ≤ c * l.length
  | [], _ => by rw [nL]; exact Nat.zero_le _
  | i :: r, h => by
    rw [nL, List.length_cons, Nat.mul_succ]
    have h1 := h i (by simp)
    have h2 := nL_le (l := r) (fun j hj => h j (by simp [hj]))
    omega
theorem dL_le {c : Nat} : ∀ {l : List It}, (∀ i ∈ l, dI i ≤ c) → dL l ≤ c
  | [], _ => by rw [dL]; exact Nat.zero_le _
  | i :: r, h => by
    rw [dL]
    exact Nat.max_le.2 ⟨h i (by simp), dL_le (l := r) (fun j hj => h j (by simp [hj]))⟩
theorem bigL_no : ∀ {l : List It}, (∀ i ∈ l, bigI i = false) → bigL l = false
  | [], _ => by rw [bigL]
  | i :: r, h => by rw [bigL, h i (by simp), bigL_no (l := r) (fun j hj => h j (by simp [hj]))]; rfl
theorem formL_all : ∀ {l : List It}, (∀ i ∈ l, formB i = true) → formL l = true
  | [], _ => formL_nil
  | i :: r, h => by rw [formL_cons, h i (by simp), formL_all (l := r) (fun j hj => h j (by simp [hj]))]; rfl
theorem formB_row {l : List It} (h : ∀ i ∈ l, formB i = true) : formB (rowI l) = true := by
  unfold rowI
  rw [formB_lst, formL_all h]
  rfl
theorem f_num (n : Int) : formB (numI n) = true := by unfold formB; rw [vI_num, enV]; rfl
theorem f_str (s : List UInt8) : formB (strI s) = true := by unfold formB; rw [vI_str, enV]; rfl
theorem f_vec (v : V) : formB (vecI v) = true := by unfold formB; rw [enV_vec]; rfl
theorem all2 {p : It → Prop} {a b : It} (ha : p a) (hb : p b) : ∀ i ∈ [a, b], p i := by
  intro i hi
  simp only [List.mem_cons, List.mem_nil_iff, or_false] at hi
  rcases hi with rfl | rfl <;> assumption
theorem all5 {p : It → Prop} {a b c d e : It} (ha : p a) (hb : p b) (hc : p c) (hd : p d) (he : p e) : ∀ i ∈ [a, b, c, d, e], p i := by
  intro i hi
  simp only [List.mem_cons, List.mem_nil_iff, or_false] at hi
  rcases hi with rfl | rfl | rfl | rfl | rfl <;> assumption
theorem all11 {p : It → Prop} {a b c d e f g h j k l : It} (h1 : p a) (h2 : p b) (h3 : p c) (h4 : p d) (h5 : p e) (h6 : p f) (h7 : p g) (h8 : p h) (h9 : p j) (h10 : p k) (h11 : p l) : ∀ i ∈ [a, b, c, d, e, f, g, h, j, k, l], p i := by
  intro i hi
  simp only [List.mem_cons, List.mem_nil_iff, or_false] at hi
  rcases hi with rfl | rfl | rfl | rfl | rfl | rfl | rfl | rfl | rfl | rfl | rfl <;> assumption
theorem allmap {α : Type} {p : It → Prop} {f : α → It} {l : List α} (h : ∀ x ∈ l, p (f x)) : ∀ i ∈ l.map f, p i := by
  intro i hi
  obtain ⟨x, hx, rfl⟩ := List.mem_map.1 hi
  exact h x hx
theorem f_ent (x : Entry) : formB (entI x) = true := formB_row (all2 (f_num _) (f_str _))
theorem f_job (x : Job) : formB (jobI x) = true := formB_row (all5 (f_str _) (f_str _) (f_vec _) (f_str _) (f_num _))
theorem f_mail (m : Mail) : formB (itemM m) = true :=
  formB_row (all11 (f_num _) (f_num _) (f_num _) (f_num _) (f_num _) (f_num _) (formB_row (allmap fun x _ => f_ent x)) (f_num _) (f_num _) (formB_row (allmap fun x _ => f_str x)) (formB_row (allmap fun x _ => f_job x)))
theorem n_row {l : List It} {c d : Nat} (h1 : ∀ i ∈ l, nI i ≤ c) (h2 : ∀ i ∈ l, dI i ≤ d) (h3 : ∀ i ∈ l, bigI i = false) : nI (rowI l) ≤ 1 + c * l.length ∧ dI (rowI l) ≤ 1 + d ∧ bigI (rowI l) = false := by
  unfold rowI
  rw [nI, dI, bigI, bigL_no h3]
  have := nL_le h1
  have := dL_le h2
  exact ⟨by omega, by omega, by simp⟩
theorem n_ent {x : Entry} (h : x.data.length ≤ 4096) : nI (entI x) ≤ 3 ∧ dI (entI x) ≤ 2 ∧ bigI (entI x) = false := by
  obtain ⟨a1, a2, a3⟩ := n_num x.term
  obtain ⟨b1, b2, b3⟩ := n_str h
  exact n_row (c := 1) (d := 1) (all2 (Nat.le_of_eq a1) (Nat.le_of_eq b1)) (all2 (Nat.le_of_eq a2) (Nat.le_of_eq b2)) (all2 a3 b3)
theorem n_job {x : Job} (h1 : x.name.length ≤ 4096) (h2 : x.tenant.length ≤ 4096) (h3 : x.node.length ≤ 4096) : nI (jobI x) ≤ 21 ∧ dI (jobI x) ≤ 3 ∧ bigI (jobI x) = false := by
  obtain ⟨a1, a2, a3⟩ := n_num x.status
  obtain ⟨b1, b2, b3⟩ := n_str h1
  obtain ⟨c1, c2, c3⟩ := n_str h2
  obtain ⟨d1, d2, d3⟩ := n_str h3
  obtain ⟨e1, e2, e3⟩ := n_vec x.v
  exact n_row (c := 4) (d := 2) (all5 (by omega) (by omega) (by omega) (by omega) (by omega)) (all5 (by omega) (by omega) (by omega) (by omega) (by omega)) (all5 b3 c3 e3 d3 a3)
theorem mayM_iff {m : Mail} : mayM m = true ↔ wi m.kind 1 9 = true ∧ wi m.term 0 big = true ∧ inS m.a (spanA m.kind) = true ∧ inS m.b (spanB m.kind) = true ∧ inS m.c (spanC m.kind) = true ∧ inS m.d (spanD m.kind) = true ∧ mayL m = true ∧ mayS m = true ∧ mayJs m = true := by
  unfold mayM
  simp only [Bool.and_eq_true]
theorem mayL_len {m : Mail} (h : mayL m = true) : m.l.length ≤ 16 ∧ ∀ x ∈ m.l, mayE x = true := by
  unfold mayL at h
  split at h
  · simp only [Bool.and_eq_true, decide_eq_true_eq, List.all_eq_true] at h; exact h
  · have := of_decide_eq_true h; rw [this]; simp
theorem mayJ_len {m : Mail} (h : mayJs m = true) : m.j.length ≤ 128 ∧ ∀ x ∈ m.j, mayJ x = true := by
  unfold mayJs at h
  split at h
  · simp only [Bool.and_eq_true, decide_eq_true_eq, List.all_eq_true] at h; exact h
  · have := of_decide_eq_true h; rw [this]; simp
theorem mayS_len {m : Mail} (h : mayS m = true) : m.sd.length ≤ 65536 := by
  unfold mayS at h
  split at h
  · simp only [Bool.and_eq_true, decide_eq_true_eq] at h; exact h.2.2
  · split at h
    · simp only [Bool.and_eq_true, decide_eq_true_eq] at h; omega
    · simp only [Bool.and_eq_true, decide_eq_true_eq] at h; rw [h.2.2]; exact Nat.zero_le _
theorem okc_mail {m : Mail} (h : mayM m = true) : okc (itemM m) 1 4096 := by
  obtain ⟨_, _, _, _, _, _, hl, hs, hj⟩ := mayM_iff.1 h
  obtain ⟨l1, l2⟩ := mayL_len hl
  obtain ⟨j1, j2⟩ := mayJ_len hj
  have s1 := mayS_len hs
  have e1 : ∀ x ∈ m.l, nI (entI x) ≤ 3 ∧ dI (entI x) ≤ 2 ∧ bigI (entI x) = false := fun x hx => n_ent (by
    have := l2 x hx
    unfold mayE at this
    simp only [Bool.and_eq_true, decide_eq_true_eq] at this
    omega)
  have e2 : ∀ x ∈ m.j, nI (jobI x) ≤ 21 ∧ dI (jobI x) ≤ 3 ∧ bigI (jobI x) = false := fun x hx => by
    have := j2 x hx
    unfold mayJ at this
    simp only [Bool.and_eq_true] at this
    have a1 := may_size this.1
    have a2 := may_size this.2.1
    have a3 := may_size this.2.2.1
    exact n_job (by omega) (by omega) (by omega)
  have e3 : ∀ x ∈ chunks m.sd, nI (strI x) = 1 ∧ dI (strI x) = 1 ∧ bigI (strI x) = false := fun x hx => n_str (chunks_mem _ x hx).2
  have cl := chunks_len m.sd
  obtain ⟨r1, r2, r3⟩ := n_row (l := m.l.map entI) (c := 3) (d := 2) (allmap fun x hx => (e1 x hx).1) (allmap fun x hx => (e1 x hx).2.1) (allmap fun x hx => (e1 x hx).2.2)
  obtain ⟨q1, q2, q3⟩ := n_row (l := m.j.map jobI) (c := 21) (d := 3) (allmap fun x hx => (e2 x hx).1) (allmap fun x hx => (e2 x hx).2.1) (allmap fun x hx => (e2 x hx).2.2)
  obtain ⟨p1, p2, p3⟩ := n_row (l := (chunks m.sd).map strI) (c := 1) (d := 1) (allmap fun x hx => Nat.le_of_eq (e3 x hx).1) (allmap fun x hx => Nat.le_of_eq (e3 x hx).2.1) (allmap fun x hx => (e3 x hx).2.2)
  rw [List.length_map] at r1 q1 p1
  have nn := fun n => (n_num n).1
  have nd := fun n => (n_num n).2.1
  have nb := fun n => (n_num n).2.2
  have dd : dI (itemM m) ≤ 1 + 4 := (n_row (c := 3000) (d := 4) (all11 (by rw [nn]; decide) (by rw [nn]; decide) (by rw [nn]; decide) (by rw [nn]; decide) (by rw [nn]; decide) (by rw [nn]; decide) (by omega) (by rw [nn]; decide) (by rw [nn]; decide) (by omega) (by omega))
    (all11 (by rw [nd]; decide) (by rw [nd]; decide) (by rw [nd]; decide) (by rw [nd]; decide) (by rw [nd]; decide) (by rw [nd]; decide) (by omega) (by rw [nd]; decide) (by rw [nd]; decide) (by omega) (by omega))
    (all11 (nb _) (nb _) (nb _) (nb _) (nb _) (nb _) r3 (nb _) (nb _) p3 q3)).2.1
  have bb : bigI (itemM m) = false := (n_row (c := 3000) (d := 4) (all11 (by rw [nn]; decide) (by rw [nn]; decide) (by rw [nn]; decide) (by rw [nn]; decide) (by rw [nn]; decide) (by rw [nn]; decide) (by omega) (by rw [nn]; decide) (by rw [nn]; decide) (by omega) (by omega))
    (all11 (by rw [nd]; decide) (by rw [nd]; decide) (by rw [nd]; decide) (by rw [nd]; decide) (by rw [nd]; decide) (by rw [nd]; decide) (by omega) (by rw [nd]; decide) (by rw [nd]; decide) (by omega) (by omega))
    (all11 (nb _) (nb _) (nb _) (nb _) (nb _) (nb _) r3 (nb _) (nb _) p3 q3)).2.2
  refine ⟨?_, by omega, bb⟩
  have : nI (itemM m) = 1 + (1 + (1 + (1 + (1 + (1 + (1 + (nI (rowI (m.l.map entI)) + (1 + (1 + (nI (rowI ((chunks m.sd).map strI)) + (nI (rowI (m.j.map jobI)) + 0))))))))))) := by
    conv => lhs; unfold itemM rowI
    rw [nI, nL, nL, nL, nL, nL, nL, nL, nL, nL, nL, nL, nL, nn, nn, nn, nn, nn, nn, nn, nn]
    rfl
  omega
/-- A mail's bytes. -/
noncomputable def bytesM (m : Mail) : List UInt8 := (encode (itemM m)).1
theorem encode_mail {m : Mail} (h : mayM m = true) : encode (itemM m) = (bytesM m, 0) := by
  have h1 := f_mail m
  unfold formB at h1
  cases he : enV (vI (itemM m)) with
  | none => rw [he] at h1; cases h1
  | some b => unfold bytesM; rw [enc_of (okc_mail h) he]
noncomputable def encM (m : Mail) : List UInt8 × Int := if mayM m = true then (bytesM m, 0) else ([], 4)

end Go.AW.Ml

/- Mails, read; plain. -/
set_option linter.unusedVariables false
set_option linter.unusedSimpArgs false
namespace Go.AW.Ml
open Go Go.AW Go.AW.Wir Go.AW.Cm

def kindsB (i : It) (ks : List Int) : Bool := decide (i.k = 3) && decide (i.l.map It.k = ks)
/-- A part; none: no item. -/
def g (i : It) (k : Nat) : It := i.l.getD k noIt
theorem kindsB_iff {i : It} {ks : List Int} : kindsB i ks = true ↔ i.k = 3 ∧ i.l.map It.k = ks := by
  unfold kindsB; simp only [Bool.and_eq_true, decide_eq_true_eq]
def refE (i : It) : Entry := ⟨(g i 0).n, (g i 1).s⟩
def refJ (i : It) : Job := ⟨(g i 0).s, (g i 1).s, ((g (g i 2) 0).n, (g (g i 2) 1).n, (g (g i 2) 2).n), (g i 3).s, (g i 4).n⟩
def okE (i : It) : Bool := kindsB i [1, 2]
def okJ (i : It) : Bool := kindsB i [2, 2, 3, 2, 1] && kindsB (g i 2) [1, 1, 1]
def okP (l : List It) : Bool := l.all (fun i => decide (i.k = 2)) && goodCh (l.map It.s)
/-- The mail that parts tell. -/
def refM (i : It) : Mail := ⟨(g i 0).n, (g i 1).n, (g i 2).n, (g i 3).n, (g i 4).n, (g i 5).n, (g i 6).l.map refE, (g i 7).n, (g i 8).n, ((g i 9).l.map It.s).flatten, (g i 10).l.map refJ⟩
def okM (i : It) : Bool := kindsB i [1, 1, 1, 1, 1, 1, 3, 1, 1, 3, 3] && (wi (g i 0).n 0 9 && ((g i 6).l.all okE && (okP (g i 9).l && (g i 10).l.all okJ)))
def zeroM : Mail := ⟨0, 0, 0, 0, 0, 0, [], 0, 0, [], []⟩
/-- The mail that some bytes are. -/
def decM (s : List UInt8) : Mail × Int := if (decode s).2 = 0 ∧ okM (decode s).1 = true ∧ mayM (refM (decode s).1) = true then (refM (decode s).1, 0) else (zeroM, 4)

theorem fk1 {i : It} (hf : formB i = true) (h : i.k = 1) : i = numI i.n := fm_num hf (by obtain ⟨k, n, s, l⟩ := i; exact if_pos h)
theorem fk2 {i : It} (hf : formB i = true) (h : i.k = 2) : i = strI i.s := fm_str hf (by obtain ⟨k, n, s, l⟩ := i; exact if_pos h)
theorem fk3 {i : It} (hf : formB i = true) (h : i.k = 3) : i = rowI i.l ∧ ∀ j ∈ i.l, formB j = true := by
  obtain ⟨k, n, s, l⟩ := i
  obtain ⟨rfl, rfl, h3⟩ := fm_row (show k = 3 from h) hf
  have : k = 3 := h
  subst this
  exact ⟨rfl, h3⟩
theorem kinds2 {l : List It} {a b : Int} (h : l.map It.k = [a, b]) : ∃ x y, l = [x, y] ∧ x.k = a ∧ y.k = b := by
  match l, h with
  | [x, y], h => simp at h; exact ⟨x, y, rfl, h.1, h.2⟩
theorem kinds3 {l : List It} {a b c : Int} (h : l.map It.k = [a, b, c]) : ∃ x y z, l = [x, y, z] ∧ x.k = a ∧ y.k = b ∧ z.k = c := by
  match l, h with
  | [x, y, z], h => simp at h; exact ⟨x, y, z, rfl, h⟩
theorem kinds5 {l : List It} {a b c d e : Int} (h : l.map It.k = [a, b, c, d, e]) : ∃ x y z u v, l = [x, y, z, u, v] ∧ x.k = a ∧ y.k = b ∧ z.k = c ∧ u.k = d ∧ v.k = e := by
  match l, h with
  | [x, y, z, u, v], h => simp at h; exact ⟨x, y, z, u, v, rfl, h⟩
theorem kinds11 {l : List It} {k0 k1 k2 k3 k4 k5 k6 k7 k8 k9 k10 : Int} (h : l.map It.k = [k0, k1, k2, k3, k4, k5, k6, k7, k8, k9, k10]) :
    ∃ a b c d e f q u v x y, l = [a, b, c, d, e, f, q, u, v, x, y] ∧ a.k = k0 ∧ b.k = k1 ∧ c.k = k2 ∧ d.k = k3 ∧ e.k = k4 ∧ f.k = k5 ∧ q.k = k6 ∧ u.k = k7 ∧ v.k = k8 ∧ x.k = k9 ∧ y.k = k10 := by
  match l, h with
  | [a, b, c, d, e, f, q, u, v, x, y], h => simp at h; exact ⟨a, b, c, d, e, f, q, u, v, x, y, rfl, h⟩
theorem fm_ent {i : It} (hf : formB i = true) (h : okE i = true) : i = entI (refE i) := by
  obtain ⟨h1, h2⟩ := kindsB_iff.1 h
  obtain ⟨e, hl⟩ := fk3 hf h1
  obtain ⟨x, y, hxy, k1, k2⟩ := kinds2 h2
  rw [hxy] at hl e
  have e1 := fk1 (hl x (by simp)) k1
  have e2 := fk2 (hl y (by simp)) k2
  have r : refE i = ⟨x.n, y.s⟩ := by unfold refE g; rw [hxy]; rfl
  rw [r, e]
  unfold entI
  dsimp only
  rw [← e1, ← e2]
theorem fm_vec3 {i : It} (hf : formB i = true) (h : kindsB i [1, 1, 1] = true) : i = vecI ((g i 0).n, (g i 1).n, (g i 2).n) := by
  obtain ⟨h1, h2⟩ := kindsB_iff.1 h
  obtain ⟨e, hl⟩ := fk3 hf h1
  obtain ⟨x, y, z, hxy, k1, k2, k3⟩ := kinds3 h2
  rw [hxy] at hl e
  have e1 := fk1 (hl x (by simp)) k1
  have e2 := fk1 (hl y (by simp)) k2
  have e3 := fk1 (hl z (by simp)) k3
  have r : ((g i 0).n, (g i 1).n, (g i 2).n) = (x.n, y.n, z.n) := by unfold g; rw [hxy]; rfl
  rw [r, e]
  unfold vecI rowI
  dsimp only
  rw [← e1, ← e2, ← e3]
theorem fm_job {i : It} (hf : formB i = true) (h : okJ i = true) : i = jobI (refJ i) := by
  unfold okJ at h
  rw [Bool.and_eq_true] at h
  obtain ⟨h, hv⟩ := h
  obtain ⟨h1, h2⟩ := kindsB_iff.1 h
  obtain ⟨e, hl⟩ := fk3 hf h1
  obtain ⟨x, y, z, u, v, hxy, k1, k2, k3, k4, k5⟩ := kinds5 h2
  rw [hxy] at hl e
  have e1 := fk2 (hl x (by simp)) k1
  have e2 := fk2 (hl y (by simp)) k2
  have gz : g i 2 = z := by unfold g; rw [hxy]; rfl
  rw [gz] at hv
  have e3 := fm_vec3 (hl z (by simp)) hv
  have e4 := fk2 (hl u (by simp)) k4
  have e5 := fk1 (hl v (by simp)) k5
  have r : refJ i = ⟨x.s, y.s, ((g z 0).n, (g z 1).n, (g z 2).n), u.s, v.n⟩ := by unfold refJ; rw [gz]; unfold g; rw [hxy]; rfl
  rw [r, e]
  unfold jobI
  dsimp only
  rw [← e1, ← e2, ← e3, ← e4, ← e5]
theorem fm_list {α : Type} {f : α → It} {r : It → α} {ok : It → Bool} (h1 : ∀ i, formB i = true → ok i = true → i = f (r i)) {l : List It} (hf : ∀ i ∈ l, formB i = true) (h : l.all ok = true) : l = (l.map r).map f := by
  rw [List.map_map]
  rw [List.all_eq_true] at h
  conv => lhs; rw [← List.map_id l]
  exact List.map_congr_left fun i hi => h1 i (hf i hi) (h i hi)
theorem fm_parts {l : List It} (hf : ∀ i ∈ l, formB i = true) (h : okP l = true) : l = (chunks (l.map It.s).flatten).map strI := by
  unfold okP at h
  rw [Bool.and_eq_true, List.all_eq_true] at h
  rw [good_chunks _ h.2, List.map_map]
  conv => lhs; rw [← List.map_id l]
  exact List.map_congr_left fun i hi => fk2 (hf i hi) (of_decide_eq_true (h.1 i hi))
/-- An item with a mail's shape is that mail's. -/
theorem fm_mail {i : It} (hf : formB i = true) (h : okM i = true) : i = itemM (refM i) := by
  unfold okM at h
  simp only [Bool.and_eq_true] at h
  obtain ⟨h, hk, hE, hP, hJ⟩ := h
  obtain ⟨h1, h2⟩ := kindsB_iff.1 h
  obtain ⟨e, hl⟩ := fk3 hf h1
  obtain ⟨a, b, c, d, e', f, q, u, v, x, y, hxy, k0, k1, k2, k3, k4, k5, k6, k7, k8, k9, k10⟩ := kinds11 h2
  have g6 : g i 6 = q := by unfold g; rw [hxy]; rfl
  have g9 : g i 9 = x := by unfold g; rw [hxy]; rfl
  have g10 : g i 10 = y := by unfold g; rw [hxy]; rfl
  rw [g6] at hE
  rw [g9] at hP
  rw [g10] at hJ
  rw [hxy] at hl e
  obtain ⟨q1, q2⟩ := fk3 (hl q (by simp)) k6
  obtain ⟨x1, x2⟩ := fk3 (hl x (by simp)) k9
  obtain ⟨y1, y2⟩ := fk3 (hl y (by simp)) k10
  have r : refM i = ⟨a.n, b.n, c.n, d.n, e'.n, f.n, q.l.map refE, u.n, v.n, (x.l.map It.s).flatten, y.l.map refJ⟩ := by
    unfold refM; rw [g6, g9, g10]; unfold g; rw [hxy]; rfl
  rw [r, e]
  unfold itemM
  dsimp only
  rw [← fm_list (fun i => fm_ent) q2 hE, ← fm_parts x2 hP, ← fm_list (fun i => fm_job) y2 hJ, ← q1, ← x1, ← y1]
  rw [← fk1 (hl a (by simp)) k0, ← fk1 (hl b (by simp)) k1, ← fk1 (hl c (by simp)) k2, ← fk1 (hl d (by simp)) k3, ← fk1 (hl e' (by simp)) k4, ← fk1 (hl f (by simp)) k5, ← fk1 (hl u (by simp)) k7, ← fk1 (hl v (by simp)) k8]
theorem refE_ent (x : Entry) : refE (entI x) = x := rfl
theorem refJ_job (x : Job) : refJ (jobI x) = x := rfl
theorem map_back {α : Type} {f : α → It} {r : It → α} (h : ∀ x, r (f x) = x) (l : List α) : (l.map f).map r = l := by
  rw [List.map_map]
  conv => rhs; rw [← List.map_id l]
  exact List.map_congr_left fun x _ => h x
theorem refM_item (m : Mail) : refM (itemM m) = m := by
  obtain ⟨k, t, a, b, c, d, l, si, st, sd, j⟩ := m
  show Mail.mk k t a b c d ((l.map entI).map refE) si st ((((chunks sd).map strI).map It.s).flatten) ((j.map jobI).map refJ) = _
  rw [map_back refE_ent, map_back refJ_job, List.map_map, show (It.s ∘ strI) = id from rfl, List.map_id, chunks_flat]
theorem okM_item {m : Mail} (h : wi m.kind 0 9 = true) : okM (itemM m) = true := by
  unfold okM
  have e1 : kindsB (itemM m) [1, 1, 1, 1, 1, 1, 3, 1, 1, 3, 3] = true := rfl
  have e2 : (g (itemM m) 0).n = m.kind := rfl
  have e3 : (g (itemM m) 6).l = m.l.map entI := rfl
  have e4 : (g (itemM m) 9).l = (chunks m.sd).map strI := rfl
  have e5 : (g (itemM m) 10).l = m.j.map jobI := rfl
  rw [e1, e2, e3, e4, e5, h]
  have a1 : (m.l.map entI).all okE = true := by
    rw [List.all_eq_true]; exact allmap (p := fun i => okE i = true) fun x _ => rfl
  have a2 : (m.j.map jobI).all okJ = true := by
    rw [List.all_eq_true]; exact allmap (p := fun i => okJ i = true) fun x _ => rfl
  have a3 : okP ((chunks m.sd).map strI) = true := by
    unfold okP
    rw [List.map_map, show (It.s ∘ strI) = id from rfl, List.map_id, chunks_good, Bool.and_true, List.all_eq_true]
    exact allmap (p := fun i => decide (i.k = 2) = true) fun x _ => rfl
  rw [a1, a2, a3]
  rfl
theorem may_kind {m : Mail} (h : mayM m = true) : wi m.kind 0 9 = true := by
  have := (mayM_iff.1 h).1
  unfold wi at *
  simp only [Bool.and_eq_true, decide_eq_true_eq] at *
  omega

theorem decM_or (s : List UInt8) : decM s = (zeroM, 4) ∨ ∃ m, decM s = (m, 0) := by
  unfold decM
  split
  · exact .inr ⟨_, rfl⟩
  · exact .inl rfl
theorem decM_item {s : List UInt8} {m : Mail} (h : decM s = (m, 0)) : decode s = (itemM m, 0) ∧ mayM m = true := by
  unfold decM at h
  split at h
  · rename_i hc
    cases h
    exact ⟨Prod.ext (fm_mail (decode_form hc.1) hc.2.1) hc.1, hc.2.2⟩
  · cases h
theorem decM_enc {s : List UInt8} {m : Mail} (h : decM s = (m, 0)) : encM m = (s, 0) := by
  obtain ⟨h1, h2⟩ := decM_item h
  have h3 := decode_enc (s := s) (by rw [h1])
  rw [h1] at h3
  unfold encM
  rw [if_pos h2, ← encode_mail h2]
  exact h3
theorem encM_may {m : Mail} {s : List UInt8} (h : encM m = (s, 0)) : mayM m = true ∧ s = bytesM m := by
  unfold encM at h
  split at h
  · rename_i hm; cases h; exact ⟨hm, rfl⟩
  · cases h
/-- Its numbers are of 64 bits, its texts and lists no longer than may be. -/
def inE (x : Entry) : Prop := in64 x.term ∧ x.data.length ≤ 140737488351232
def inJ (x : Job) : Prop := x.name.length ≤ 140737488351232 ∧ x.tenant.length ≤ 140737488351232 ∧ inVec x.v ∧ x.node.length ≤ 140737488351232 ∧ in64 x.status
def inM (m : Mail) : Prop := in64 m.kind ∧ in64 m.term ∧ (in64 m.a ∧ in64 m.b ∧ in64 m.c ∧ in64 m.d) ∧ (m.l.length ≤ 140737488351232 ∧ ∀ x ∈ m.l, inE x) ∧ (in64 m.si ∧ in64 m.st ∧ m.sd.length ≤ 140737488351232) ∧ m.j.length ≤ 140737488351232 ∧ ∀ x ∈ m.j, inJ x
theorem in_row {l : List It} (h : ∀ i ∈ l, inI i) (hl : l.length ≤ 9223372036854775807) : inI (rowI l) := by
  have key : ∀ l : List It, (∀ i ∈ l, inI i) → inIs l := by
    intro l
    induction l with
    | nil => intro _; rw [inIs]; trivial
    | cons a r ih => intro h; rw [inIs]; exact ⟨h a (by simp), ih fun i hi => h i (by simp [hi])⟩
  unfold rowI
  rw [inI]
  exact ⟨⟨by decide, hl⟩, key l h⟩
theorem in_mail {m : Mail} (h : inM m) : inI (itemM m) := by
  obtain ⟨h1, h2, ⟨h3, h4, h5, h6⟩, ⟨h7, h8⟩, ⟨h9, h10, h11⟩, h12, h13⟩ := h
  have cl := chunks_len m.sd
  exact in_row (all11 (in_num h1) (in_num h2) (in_num h3) (in_num h4) (in_num h5) (in_num h6)
    (in_row (allmap fun x hx => in_row (all2 (in_num (h8 x hx).1) (in_str _)) (by simp)) (by rw [List.length_map]; omega))
    (in_num h9) (in_num h10) (in_row (allmap fun x _ => in_str x) (by rw [List.length_map]; omega))
    (in_row (allmap fun x hx => in_row (all5 (in_str _) (in_str _) (in_vec (h13 x hx).2.2.1) (in_str _) (in_num (h13 x hx).2.2.2.2)) (by simp)) (by rw [List.length_map]; omega))) (by simp)
theorem encM_item {m : Mail} {s : List UInt8} (hm : inM m) (h : encM m = (s, 0)) : decode s = (itemM m, 0) := by
  obtain ⟨h1, rfl⟩ := encM_may h
  exact decode_item (in_mail hm) (encode_mail h1)
theorem encM_dec {m : Mail} {s : List UInt8} (hm : inM m) (h : encM m = (s, 0)) : decM s = (m, 0) := by
  have h1 := encM_item hm h
  obtain ⟨h2, _⟩ := encM_may h
  unfold decM
  rw [h1]
  dsimp only
  rw [if_pos ⟨rfl, okM_item (may_kind h2), by rw [refM_item]; exact h2⟩, refM_item]
end Go.AW.Ml

/- Mails: each kind's form; plain. -/
set_option linter.unusedVariables false
set_option linter.unusedSimpArgs false
namespace Go.AW.Ml
open Go Go.AW Go.AW.Wir Go.AW.Cm

def z0 (n : Int) : Bool := n == 0
def snB (si st : Int) (sd : List UInt8) : Bool := si == 0 && (st == 0 && decide (sd = []))
theorem z0_iff {n : Int} : (n == 0) = true ↔ n = 0 := beq_iff_eq
theorem le0 {n : Int} : (0 ≤ n ∧ n ≤ 0) ↔ n = 0 := by omega
theorem wi_iff {n lo hi : Int} : wi n lo hi = true ↔ lo ≤ n ∧ n ≤ hi := by unfold wi; simp only [Bool.and_eq_true, decide_eq_true_eq]
theorem may_k4 (t a b c d : Int) (l : List Entry) (si st : Int) (sd : List UInt8) (j : List Job) : mayM ⟨4, t, a, b, c, d, l, si, st, sd, j⟩ = (wi t 0 big && ((wi b 0 big && wi d 0 big) && (wi a 0 1 && (c == 0 && (decide (l = []) && (snB si st sd && decide (j = []))))))) := by
  have i1 : inS a (spanA 4) = true ↔ (spanA 4).1 ≤ a ∧ a ≤ (spanA 4).2 := wi_iff
  have i2 : inS b (spanB 4) = true ↔ (spanB 4).1 ≤ b ∧ b ≤ (spanB 4).2 := wi_iff
  have i3 : inS c (spanC 4) = true ↔ (spanC 4).1 ≤ c ∧ c ≤ (spanC 4).2 := wi_iff
  have i4 : inS d (spanD 4) = true ↔ (spanD 4).1 ≤ d ∧ d ≤ (spanD 4).2 := wi_iff
  rw [Bool.eq_iff_iff, mayM_iff, i1, i2, i3, i4]
  clear i1 i2 i3 i4
  simp only [Bool.and_eq_true, wi_iff, z0_iff, snB, spanA, spanB, spanC, spanD, mayL, mayS, mayJs]
  simp [le0, wi_iff]
  try grind
theorem may_k2 (t a b c d : Int) (l : List Entry) (si st : Int) (sd : List UInt8) (j : List Job) : mayM ⟨2, t, a, b, c, d, l, si, st, sd, j⟩ = (wi t 0 big && (wi a 0 1 && (b == 0 && (c == 0 && (d == 0 && (decide (l = []) && (snB si st sd && decide (j = [])))))))) := by
  have i1 : inS a (spanA 2) = true ↔ (spanA 2).1 ≤ a ∧ a ≤ (spanA 2).2 := wi_iff
  have i2 : inS b (spanB 2) = true ↔ (spanB 2).1 ≤ b ∧ b ≤ (spanB 2).2 := wi_iff
  have i3 : inS c (spanC 2) = true ↔ (spanC 2).1 ≤ c ∧ c ≤ (spanC 2).2 := wi_iff
  have i4 : inS d (spanD 2) = true ↔ (spanD 2).1 ≤ d ∧ d ≤ (spanD 2).2 := wi_iff
  rw [Bool.eq_iff_iff, mayM_iff, i1, i2, i3, i4]
  clear i1 i2 i3 i4
  simp only [Bool.and_eq_true, wi_iff, z0_iff, snB, spanA, spanB, spanC, spanD, mayL, mayS, mayJs]
  simp [le0, wi_iff]
  try grind
theorem may_k3 (t a b c d : Int) (l : List Entry) (si st : Int) (sd : List UInt8) (j : List Job) : mayM ⟨3, t, a, b, c, d, l, si, st, sd, j⟩ = (wi t 0 big && ((wi c 0 big && wi d 0 big) && (decide (l.length ≤ 16) && (l.all mayE && ((wi a 0 big && wi b 0 big) && (snB si st sd && decide (j = []))))))) := by
  have i1 : inS a (spanA 3) = true ↔ (spanA 3).1 ≤ a ∧ a ≤ (spanA 3).2 := wi_iff
  have i2 : inS b (spanB 3) = true ↔ (spanB 3).1 ≤ b ∧ b ≤ (spanB 3).2 := wi_iff
  have i3 : inS c (spanC 3) = true ↔ (spanC 3).1 ≤ c ∧ c ≤ (spanC 3).2 := wi_iff
  have i4 : inS d (spanD 3) = true ↔ (spanD 3).1 ≤ d ∧ d ≤ (spanD 3).2 := wi_iff
  rw [Bool.eq_iff_iff, mayM_iff, i1, i2, i3, i4]
  clear i1 i2 i3 i4
  simp only [Bool.and_eq_true, wi_iff, z0_iff, snB, spanA, spanB, spanC, spanD, mayL, mayS, mayJs]
  simp [le0, wi_iff]
  try grind
theorem may_k1 (t a b c d : Int) (l : List Entry) (si st : Int) (sd : List UInt8) (j : List Job) : mayM ⟨1, t, a, b, c, d, l, si, st, sd, j⟩ = (wi t 0 big && ((wi a 0 big && wi b 0 big) && (c == 0 && (d == 0 && (decide (l = []) && (snB si st sd && decide (j = []))))))) := by
  have i1 : inS a (spanA 1) = true ↔ (spanA 1).1 ≤ a ∧ a ≤ (spanA 1).2 := wi_iff
  have i2 : inS b (spanB 1) = true ↔ (spanB 1).1 ≤ b ∧ b ≤ (spanB 1).2 := wi_iff
  have i3 : inS c (spanC 1) = true ↔ (spanC 1).1 ≤ c ∧ c ≤ (spanC 1).2 := wi_iff
  have i4 : inS d (spanD 1) = true ↔ (spanD 1).1 ≤ d ∧ d ≤ (spanD 1).2 := wi_iff
  rw [Bool.eq_iff_iff, mayM_iff, i1, i2, i3, i4]
  clear i1 i2 i3 i4
  simp only [Bool.and_eq_true, wi_iff, z0_iff, snB, spanA, spanB, spanC, spanD, mayL, mayS, mayJs]
  simp [le0, wi_iff]
  try grind
theorem may_k5 (t a b c d : Int) (l : List Entry) (si st : Int) (sd : List UInt8) (j : List Job) : mayM ⟨5, t, a, b, c, d, l, si, st, sd, j⟩ = (wi t 0 big && (wi si 1 big && (wi st 1 big && (decide (sd.length ≤ 65536) && (wi c 1 127 && (wi d 0 big && (a == 0 && (b == 0 && (decide (l = []) && decide (j = [])))))))))) := by
  have i1 : inS a (spanA 5) = true ↔ (spanA 5).1 ≤ a ∧ a ≤ (spanA 5).2 := wi_iff
  have i2 : inS b (spanB 5) = true ↔ (spanB 5).1 ≤ b ∧ b ≤ (spanB 5).2 := wi_iff
  have i3 : inS c (spanC 5) = true ↔ (spanC 5).1 ≤ c ∧ c ≤ (spanC 5).2 := wi_iff
  have i4 : inS d (spanD 5) = true ↔ (spanD 5).1 ≤ d ∧ d ≤ (spanD 5).2 := wi_iff
  rw [Bool.eq_iff_iff, mayM_iff, i1, i2, i3, i4]
  clear i1 i2 i3 i4
  simp only [Bool.and_eq_true, wi_iff, z0_iff, snB, spanA, spanB, spanC, spanD, mayL, mayS, mayJs]
  simp [le0, wi_iff]
  try grind
theorem may_k6 (t a b c d : Int) (l : List Entry) (si st : Int) (sd : List UInt8) (j : List Job) : mayM ⟨6, t, a, b, c, d, l, si, st, sd, j⟩ = (wi t 0 big && (wi a 0 big && (decide (sd.length ≤ 4000) && (wi b 0 1 && (c == 0 && (d == 0 && (decide (l = []) && ((si == 0 && st == 0) && decide (j = []))))))))) := by
  have i1 : inS a (spanA 6) = true ↔ (spanA 6).1 ≤ a ∧ a ≤ (spanA 6).2 := wi_iff
  have i2 : inS b (spanB 6) = true ↔ (spanB 6).1 ≤ b ∧ b ≤ (spanB 6).2 := wi_iff
  have i3 : inS c (spanC 6) = true ↔ (spanC 6).1 ≤ c ∧ c ≤ (spanC 6).2 := wi_iff
  have i4 : inS d (spanD 6) = true ↔ (spanD 6).1 ≤ d ∧ d ≤ (spanD 6).2 := wi_iff
  rw [Bool.eq_iff_iff, mayM_iff, i1, i2, i3, i4]
  clear i1 i2 i3 i4
  simp only [Bool.and_eq_true, wi_iff, z0_iff, snB, spanA, spanB, spanC, spanD, mayL, mayS, mayJs]
  simp [le0, wi_iff]
  try grind
theorem may_k7 (t a b c d : Int) (l : List Entry) (si st : Int) (sd : List UInt8) (j : List Job) : mayM ⟨7, t, a, b, c, d, l, si, st, sd, j⟩ = (wi t 0 big && (wi a 0 big && (decide (sd.length ≤ 4000) && (wi b (-1) 6 && (c == 0 && (d == 0 && (decide (l = []) && ((si == 0 && st == 0) && decide (j = []))))))))) := by
  have i1 : inS a (spanA 7) = true ↔ (spanA 7).1 ≤ a ∧ a ≤ (spanA 7).2 := wi_iff
  have i2 : inS b (spanB 7) = true ↔ (spanB 7).1 ≤ b ∧ b ≤ (spanB 7).2 := wi_iff
  have i3 : inS c (spanC 7) = true ↔ (spanC 7).1 ≤ c ∧ c ≤ (spanC 7).2 := wi_iff
  have i4 : inS d (spanD 7) = true ↔ (spanD 7).1 ≤ d ∧ d ≤ (spanD 7).2 := wi_iff
  rw [Bool.eq_iff_iff, mayM_iff, i1, i2, i3, i4]
  clear i1 i2 i3 i4
  simp only [Bool.and_eq_true, wi_iff, z0_iff, snB, spanA, spanB, spanC, spanD, mayL, mayS, mayJs]
  simp [le0, wi_iff]
  try grind
theorem may_k8 (t a b c d : Int) (l : List Entry) (si st : Int) (sd : List UInt8) (j : List Job) : mayM ⟨8, t, a, b, c, d, l, si, st, sd, j⟩ = (wi t 0 big && (wi a 0 big && (decide (j.length ≤ 128) && (j.all mayJ && (b == 0 && (c == 0 && (d == 0 && (decide (l = []) && snB si st sd)))))))) := by
  have i1 : inS a (spanA 8) = true ↔ (spanA 8).1 ≤ a ∧ a ≤ (spanA 8).2 := wi_iff
  have i2 : inS b (spanB 8) = true ↔ (spanB 8).1 ≤ b ∧ b ≤ (spanB 8).2 := wi_iff
  have i3 : inS c (spanC 8) = true ↔ (spanC 8).1 ≤ c ∧ c ≤ (spanC 8).2 := wi_iff
  have i4 : inS d (spanD 8) = true ↔ (spanD 8).1 ≤ d ∧ d ≤ (spanD 8).2 := wi_iff
  rw [Bool.eq_iff_iff, mayM_iff, i1, i2, i3, i4]
  clear i1 i2 i3 i4
  simp only [Bool.and_eq_true, wi_iff, z0_iff, snB, spanA, spanB, spanC, spanD, mayL, mayS, mayJs]
  simp [le0, wi_iff]
  try grind
theorem may_k9 (t a b c d : Int) (l : List Entry) (si st : Int) (sd : List UInt8) (j : List Job) : mayM ⟨9, t, a, b, c, d, l, si, st, sd, j⟩ = (wi t 0 big && (wi a 0 big && (decide (j.length ≤ 128) && (j.all mayJ && (b == 0 && (c == 0 && (d == 0 && (decide (l = []) && snB si st sd)))))))) := by
  have i1 : inS a (spanA 9) = true ↔ (spanA 9).1 ≤ a ∧ a ≤ (spanA 9).2 := wi_iff
  have i2 : inS b (spanB 9) = true ↔ (spanB 9).1 ≤ b ∧ b ≤ (spanB 9).2 := wi_iff
  have i3 : inS c (spanC 9) = true ↔ (spanC 9).1 ≤ c ∧ c ≤ (spanC 9).2 := wi_iff
  have i4 : inS d (spanD 9) = true ↔ (spanD 9).1 ≤ d ∧ d ≤ (spanD 9).2 := wi_iff
  rw [Bool.eq_iff_iff, mayM_iff, i1, i2, i3, i4]
  clear i1 i2 i3 i4
  simp only [Bool.and_eq_true, wi_iff, z0_iff, snB, spanA, spanB, spanC, spanD, mayL, mayS, mayJs]
  simp [le0, wi_iff]
  try grind
theorem may_nk {m : Mail} (h : ¬ (1 ≤ m.kind ∧ m.kind ≤ 9)) : mayM m = false := by
  cases hm : mayM m with
  | false => rfl
  | true => exact absurd (wi_iff.1 (mayM_iff.1 hm).1) h
end Go.AW.Ml
