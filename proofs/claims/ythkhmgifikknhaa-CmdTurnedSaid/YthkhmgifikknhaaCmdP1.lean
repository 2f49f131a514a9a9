import Derived.Test.YthkhmgifikknhaaWirP1
import Derived.Test.YthkhmgifikknhaaNamN1
import Derived.Test.YthkhmgifikknhaaAw32
/- Commands and replies, and their bytes; plain. -/
set_option linter.unusedVariables false
set_option linter.unusedSimpArgs false
namespace Go.AW.Cm
open Go Go.AW Go.AW.Wir Go.Lib

theorem width4 (l : List UInt8) : (decodeL l).2 ≤ 4 := by
  rw [decodeL_N]
  rcases decodeN_shape l.length (l.getD 0 0).toNat (l.getD 1 0).toNat (l.getD 2 0).toNat (l.getD 3 0).toNat with ⟨_, e⟩ | ⟨_, _, _, _, e⟩ | ⟨_, _, _, _, _, _, e⟩ | ⟨_, _, _, _, _, _, _, e⟩ | e <;> rw [e] <;> dsimp only <;> omega
theorem segs_len4 (l : List UInt8) : l.length ≤ 4 * (Nam.segs l).length := by
  refine Nam.seg_ind (motive := fun l => l.length ≤ 4 * (Nam.segs l).length) ?_ ?_ l
  · exact Nat.zero_le _
  · intro l hne ih
    rw [Nam.segs_cons hne, List.length_cons]
    have := width4 l
    rw [List.length_drop] at ih
    omega
theorem may_size {l : List UInt8} (h : Nam.may l = true) : l.length ≤ 96 := by
  have h1 := segs_len4 l
  unfold Nam.may Nam.mayG at h
  simp only [Bool.and_eq_true, decide_eq_true_eq] at h
  omega

structure Cmd where
  op : Int
  name : List UInt8
  of : List UInt8
  v : V
  n : Int
structure Rep where
  e : Int
  s : List UInt8
  v : V
  n : Int
def in64 (n : Int) : Prop := -9223372036854775808 ≤ n ∧ n ≤ 9223372036854775807
def inVec (v : V) : Prop := in64 v.1 ∧ in64 v.2.1 ∧ in64 v.2.2
def inCmd (c : Cmd) : Prop := in64 c.op ∧ c.name.length ≤ 9223372036854775806 ∧ c.of.length ≤ 9223372036854775806 ∧ inVec c.v ∧ in64 c.n
def inRep (r : Rep) : Prop := in64 r.e ∧ inVec r.v ∧ in64 r.n
def mayV (v : V) : Bool := decide (0 ≤ v.1) && decide (0 ≤ v.2.1) && decide (0 ≤ v.2.2)
def two (c : Cmd) : Prop := c.op = 5 ∨ c.op = 7
def much (c : Cmd) : Prop := c.op = 1 ∨ c.op = 4 ∨ c.op = 5
instance (c : Cmd) : Decidable (two c) := inferInstanceAs (Decidable (_ ∨ _))
instance (c : Cmd) : Decidable (much c) := inferInstanceAs (Decidable (_ ∨ _))
def ofB (c : Cmd) : Bool := if two c then Nam.may c.of else decide (c.of = [])
def vB (c : Cmd) : Bool := if much c then mayV c.v else eqV c.v (0, 0, 0)
def nB (c : Cmd) : Bool := if c.op = 2 then decide (c.n = 0 ∨ c.n = 1) else if c.op = 7 then decide (c.n = 1 ∨ c.n = 2) else decide (c.n = 0)
/-- Has a command its form? -/
def mayC (c : Cmd) : Bool := decide (1 ≤ c.op ∧ c.op ≤ 10) && (Nam.may c.name && (ofB c && (vB c && nB c)))
def asksC (c : Cmd) : Bool := mayC c && decide (8 ≤ c.op)
def mayR (r : Rep) : Bool := decide (0 ≤ r.e) && (decide (r.e ≤ 255) && decide (r.s.length ≤ 1000))
def numI (n : Int) : It := .mk 1 n [] []
def strI (s : List UInt8) : It := .mk 2 0 s []
def vecI (v : V) : It := .mk 3 0 [] [numI v.1, numI v.2.1, numI v.2.2]
def itemC (c : Cmd) : It := .mk 3 0 [] [numI c.op, strI c.name, strI c.of, vecI c.v, numI c.n]
def itemR (r : Rep) : It := .mk 3 0 [] [numI r.e, strI r.s, vecI r.v, numI r.n]
theorem vI_num (n : Int) : vI (numI n) = .num n := by unfold numI; rw [vI, if_pos ⟨rfl, rfl, rfl⟩]
theorem vI_str (s : List UInt8) : vI (strI s) = .txt s := by unfold strI; rw [vI, if_neg (by simp), if_pos ⟨rfl, rfl, rfl⟩]
theorem cntB3 : cntB 3 = [1, 3] := by rfl
theorem cntB4 : cntB 4 = [1, 4] := by rfl
theorem cntB5 : cntB 5 = [1, 5] := by rfl
def vecB (v : V) : List UInt8 := 3 :: 1 :: 3 :: (1 :: cntB (zig v.1) ++ (1 :: cntB (zig v.2.1) ++ (1 :: cntB (zig v.2.2) ++ [])))
theorem enV_vec (v : V) : enV (vI (vecI v)) = some (vecB v) := by
  unfold vecI
  rw [vI_row, vL, vL, vL, vL, vI_num, vI_num, vI_num, enV, enL, enV, enL, enV, enL, enV, enL]
  simp only [List.length_cons, List.length_nil, Nat.zero_add, Nat.reduceAdd, cntB3]
  rfl
def bytesC (c : Cmd) : List UInt8 := 3 :: 1 :: 5 :: (1 :: cntB (zig c.op) ++ (2 :: cntB c.name.length ++ c.name ++ (2 :: cntB c.of.length ++ c.of ++ (vecB c.v ++ (1 :: cntB (zig c.n) ++ [])))))
def bytesRp (r : Rep) : List UInt8 := 3 :: 1 :: 4 :: (1 :: cntB (zig r.e) ++ (2 :: cntB r.s.length ++ r.s ++ (vecB r.v ++ (1 :: cntB (zig r.n) ++ []))))
theorem enV_cmd (c : Cmd) : enV (vI (itemC c)) = some (bytesC c) := by
  unfold itemC
  rw [vI_row, vL, vL, vL, vL, vL, vL, vI_num, vI_str, vI_str, vI_num, enV, enL, enV, enL, enV, enL, enV, enL, enV_vec, enL, enV, enL]
  simp only [List.length_cons, List.length_nil, Nat.zero_add, Nat.reduceAdd, cntB5]
  rfl
theorem enV_rep (r : Rep) : enV (vI (itemR r)) = some (bytesRp r) := by
  unfold itemR
  rw [vI_row, vL, vL, vL, vL, vL, vI_num, vI_str, vI_num, enV, enL, enV, enL, enV, enL, enV_vec, enL, enV, enL]
  simp only [List.length_cons, List.length_nil, Nat.zero_add, Nat.reduceAdd, cntB4]
  rfl
theorem n_num (n : Int) : nI (numI n) = 1 ∧ dI (numI n) = 1 ∧ bigI (numI n) = false := ⟨by unfold numI; rw [nI, nL], by unfold numI; rw [dI, dL], by unfold numI; rw [bigI, bigL]; rfl⟩
theorem n_str {s : List UInt8} (h : s.length ≤ 4096) : nI (strI s) = 1 ∧ dI (strI s) = 1 ∧ bigI (strI s) = false := ⟨by unfold strI; rw [nI, nL], by unfold strI; rw [dI, dL], by unfold strI; rw [bigI, bigL, decide_eq_false (by omega)]; rfl⟩
theorem n_vec (v : V) : nI (vecI v) = 4 ∧ dI (vecI v) = 2 ∧ bigI (vecI v) = false := by
  obtain ⟨a1, a2, a3⟩ := n_num v.1
  obtain ⟨b1, b2, b3⟩ := n_num v.2.1
  obtain ⟨c1, c2, c3⟩ := n_num v.2.2
  unfold vecI
  refine ⟨by rw [nI, nL, nL, nL, nL, a1, b1, c1], by rw [dI, dL, dL, dL, dL, a2, b2, c2]; rfl, by rw [bigI, bigL, bigL, bigL, bigL, a3, b3, c3]; rfl⟩
theorem okc_cmd {c : Cmd} (h1 : c.name.length ≤ 4096) (h2 : c.of.length ≤ 4096) : okc (itemC c) 1 4096 := by
  obtain ⟨a1, a2, a3⟩ := n_num c.op
  obtain ⟨b1, b2, b3⟩ := n_str h1
  obtain ⟨c1, c2, c3⟩ := n_str h2
  obtain ⟨d1, d2, d3⟩ := n_vec c.v
  obtain ⟨e1, e2, e3⟩ := n_num c.n
  unfold itemC okc
  rw [nI, nL, nL, nL, nL, nL, nL, a1, b1, c1, d1, e1, dI, dL, dL, dL, dL, dL, dL, a2, b2, c2, d2, e2, bigI, bigL, bigL, bigL, bigL, bigL, bigL, a3, b3, c3, d3, e3]
  exact ⟨by decide, by decide, by simp⟩
theorem okc_rep {r : Rep} (h1 : r.s.length ≤ 4096) : okc (itemR r) 1 4096 := by
  obtain ⟨a1, a2, a3⟩ := n_num r.e
  obtain ⟨b1, b2, b3⟩ := n_str h1
  obtain ⟨d1, d2, d3⟩ := n_vec r.v
  obtain ⟨e1, e2, e3⟩ := n_num r.n
  unfold itemR okc
  rw [nI, nL, nL, nL, nL, nL, a1, b1, d1, e1, dI, dL, dL, dL, dL, dL, a2, b2, d2, e2, bigI, bigL, bigL, bigL, bigL, bigL, a3, b3, d3, e3]
  exact ⟨by decide, by decide, by simp⟩
theorem mayC_iff {c : Cmd} : mayC c = true ↔ (1 ≤ c.op ∧ c.op ≤ 10) ∧ Nam.may c.name = true ∧ ofB c = true ∧ vB c = true ∧ nB c = true := by
  unfold mayC
  simp only [Bool.and_eq_true, decide_eq_true_eq]
theorem mayC_len {c : Cmd} (h : mayC c = true) : c.name.length ≤ 96 ∧ c.of.length ≤ 96 := by
  obtain ⟨_, h1, h2, _⟩ := mayC_iff.1 h
  refine ⟨may_size h1, ?_⟩
  unfold ofB at h2
  split at h2
  · exact may_size h2
  · have := of_decide_eq_true h2; rw [this]; exact Nat.zero_le _
theorem mayR_iff {r : Rep} : mayR r = true ↔ 0 ≤ r.e ∧ r.e ≤ 255 ∧ r.s.length ≤ 1000 := by
  unfold mayR
  simp only [Bool.and_eq_true, decide_eq_true_eq]
theorem encode_cmd {c : Cmd} (h : mayC c = true) : encode (itemC c) = (bytesC c, 0) := enc_of (okc_cmd (by have := mayC_len h; omega) (by have := mayC_len h; omega)) (enV_cmd c)
theorem encode_rep {r : Rep} (h : mayR r = true) : encode (itemR r) = (bytesRp r, 0) := enc_of (okc_rep (by have := mayR_iff.1 h; omega)) (enV_rep r)
theorem in_num {n : Int} (h : in64 n) : inI (numI n) := by unfold numI; rw [inI, inIs]; exact ⟨⟨h, by simp⟩, trivial⟩
theorem in_str (s : List UInt8) : inI (strI s) := by unfold strI; rw [inI, inIs]; exact ⟨⟨by decide, by simp⟩, trivial⟩
theorem in_vec {v : V} (h : inVec v) : inI (vecI v) := by
  unfold vecI
  rw [inI, inIs, inIs, inIs, inIs]
  exact ⟨⟨by decide, by simp⟩, in_num h.1, in_num h.2.1, in_num h.2.2, trivial⟩
theorem in_cmd {c : Cmd} (h : inCmd c) : inI (itemC c) := by
  unfold itemC
  rw [inI, inIs, inIs, inIs, inIs, inIs, inIs]
  exact ⟨⟨by decide, by simp⟩, in_num h.1, in_str _, in_str _, in_vec h.2.2.2.1, in_num h.2.2.2.2, trivial⟩
theorem in_rep {r : Rep} (h : inRep r) : inI (itemR r) := by
  unfold itemR
  rw [inI, inIs, inIs, inIs, inIs, inIs]
  exact ⟨⟨by decide, by simp⟩, in_num h.1, in_str _, in_vec h.2.1, in_num h.2.2, trivial⟩
/-- A command's bytes, or that it has none. -/
def encC (c : Cmd) : List UInt8 × Int := if mayC c = true then (bytesC c, 0) else ([], 4)
def encR (r : Rep) : List UInt8 × Int := if mayR r = true then (bytesRp r, 0) else ([], 4)
def zeroC : Cmd := ⟨0, [], [], (0, 0, 0), 0⟩
def zeroR : Rep := ⟨0, [], (0, 0, 0), 0⟩

def toN : It → Option Int
  | .mk k n _ _ => if k = 1 then some n else none
def toS : It → Option (List UInt8)
  | .mk k _ s _ => if k = 2 then some s else none
def toV : It → Option V
  | .mk k _ _ [a, b, c] => if k = 3 then (match toN a, toN b, toN c with | some x, some y, some z => some (x, y, z) | _, _, _ => none) else none
  | _ => none
def small (n : Int) : Prop := -2147483648 ≤ n ∧ n ≤ 2147483647
instance (n : Int) : Decidable (small n) := inferInstanceAs (Decidable (_ ∧ _))
def toC : It → Option Cmd
  | .mk k _ _ [a, b, c, d, e] => if k = 3 then (match toN a, toS b, toS c, toV d, toN e with | some op, some nm, some o, some v, some n => if small op then some ⟨op, nm, o, v, n⟩ else none | _, _, _, _, _ => none) else none
  | _ => none
def toR : It → Option Rep
  | .mk k _ _ [a, b, c, d] => if k = 3 then (match toN a, toS b, toV c, toN d with | some e, some s, some v, some n => if small e then some ⟨e, s, v, n⟩ else none | _, _, _, _ => none) else none
  | _ => none
/-- The command that some bytes are. -/
def decC (s : List UInt8) : Cmd × Int := if (decode s).2 = 0 then (match toC (decode s).1 with | some c => if mayC c = true then (c, 0) else (zeroC, 4) | none => (zeroC, 4)) else (zeroC, 4)
def decR (s : List UInt8) : Rep × Int := if (decode s).2 = 0 then (match toR (decode s).1 with | some c => if mayR c = true then (c, 0) else (zeroR, 4) | none => (zeroR, 4)) else (zeroR, 4)

theorem toN_num (n : Int) : toN (numI n) = some n := rfl
theorem toS_str (s : List UInt8) : toS (strI s) = some s := rfl
theorem toV_vec (v : V) : toV (vecI v) = some v := rfl
theorem toC_item {c : Cmd} (h : small c.op) : toC (itemC c) = some c := by
  unfold itemC
  simp only [toC, toN_num, toS_str, toV_vec, if_pos h, if_true]
theorem toR_item {r : Rep} (h : small r.e) : toR (itemR r) = some r := by
  unfold itemR
  simp only [toR, toN_num, toS_str, toV_vec, if_pos h, if_true]
/-- What has bytes, and is read as a number, is that number. -/
theorem fm_num {i : It} {n : Int} (hf : (enV (vI i)).isSome = true) (h : toN i = some n) : i = numI n := by
  obtain ⟨k, m, s, l⟩ := i
  rw [show toN (.mk k m s l) = if k = 1 then some m else none from rfl] at h
  split at h
  · rename_i hk
    cases h
    subst hk
    rw [vI] at hf
    split at hf
    · rename_i hc
      obtain ⟨_, rfl, rfl⟩ := hc
      rfl
    · rw [if_neg (by simp), if_pos (by simp), enV] at hf; cases hf
  · cases h
theorem fm_str {i : It} {t : List UInt8} (hf : (enV (vI i)).isSome = true) (h : toS i = some t) : i = strI t := by
  obtain ⟨k, m, s, l⟩ := i
  rw [show toS (.mk k m s l) = if k = 2 then some s else none from rfl] at h
  split at h
  · rename_i hk
    cases h
    subst hk
    rw [vI, if_neg (by simp)] at hf
    split at hf
    · rename_i hc
      obtain ⟨_, rfl, rfl⟩ := hc
      rfl
    · rw [if_pos (by simp), enV] at hf; cases hf
  · cases h
theorem fm_row {k n : Int} {s : List UInt8} {l : List It} (hk : k = 3) (hf : (enV (vI (.mk k n s l))).isSome = true) : n = 0 ∧ s = [] ∧ ∀ i ∈ l, (enV (vI i)).isSome = true := by
  subst hk
  rw [vI, if_neg (by simp), if_neg (by simp)] at hf
  split at hf
  · rw [enV] at hf; cases hf
  · rename_i hc
    simp only [not_or, Classical.not_not] at hc
    refine ⟨hc.2.1, hc.2.2, ?_⟩
    rw [enV] at hf
    have key : ∀ l : List It, (enL (vL l)).isSome = true → ∀ i ∈ l, (enV (vI i)).isSome = true := by
      intro l
      induction l with
      | nil => intro _ i hi; cases hi
      | cons a r ih =>
        intro h i hi
        rw [vL, enL] at h
        cases ha : enV (vI a) with
        | none => rw [ha] at h; cases h
        | some x =>
          cases hr : enL (vL r) with
          | none => rw [ha, hr] at h; cases h
          | some y =>
            rcases List.mem_cons.1 hi with rfl | hi
            · rw [ha]; rfl
            · exact ih (by rw [hr]; rfl) i hi
    refine key l ?_
    cases h : enL (vL l) with
    | none => rw [h] at hf; cases hf
    | some x => rfl
theorem fm_vec {i : It} {v : V} (hf : (enV (vI i)).isSome = true) (h : toV i = some v) : i = vecI v := by
  unfold toV at h
  split at h
  · split at h
    · rename_i hk
      obtain ⟨rfl, rfl, hl⟩ := fm_row hk hf
      subst hk
      split at h
      · rename_i ha hb hc
        cases h
        rw [fm_num (hl _ (by simp)) ha, fm_num (hl _ (by simp)) hb, fm_num (hl _ (by simp)) hc]
        rfl
      · cases h
    · cases h
  · cases h
theorem fm_cmd {i : It} {c : Cmd} (hf : (enV (vI i)).isSome = true) (h : toC i = some c) : i = itemC c := by
  unfold toC at h
  split at h
  · split at h
    · rename_i hk
      obtain ⟨rfl, rfl, hl⟩ := fm_row hk hf
      subst hk
      split at h
      · rename_i ha hb hc hd he
        split at h
        · cases h
          rw [fm_num (hl _ (by simp)) ha, fm_str (hl _ (by simp)) hb, fm_str (hl _ (by simp)) hc, fm_vec (hl _ (by simp)) hd, fm_num (hl _ (by simp)) he]
          rfl
        · cases h
      · cases h
    · cases h
  · cases h
theorem fm_rep {i : It} {r : Rep} (hf : (enV (vI i)).isSome = true) (h : toR i = some r) : i = itemR r := by
  unfold toR at h
  split at h
  · split at h
    · rename_i hk
      obtain ⟨rfl, rfl, hl⟩ := fm_row hk hf
      subst hk
      split at h
      · rename_i ha hb hc hd
        split at h
        · cases h
          rw [fm_num (hl _ (by simp)) ha, fm_str (hl _ (by simp)) hb, fm_vec (hl _ (by simp)) hc, fm_num (hl _ (by simp)) hd]
          rfl
        · cases h
      · cases h
    · cases h
  · cases h
theorem decode_enc {s : List UInt8} (h : (decode s).2 = 0) : encode (decode s).1 = (s, 0) := by
  unfold decode at h ⊢
  split
  · rename_i hd; exact dec_enc hd
  · rename_i hd
    split at h
    · rename_i x y z hd'; exact absurd hd' (hd _ _)
    · exact absurd h (by decide)
theorem decode_form {s : List UInt8} (h : (decode s).2 = 0) : (enV (vI (decode s).1)).isSome = true := by
  have h1 := decode_enc h
  have h2 : (encode (decode s).1).2 = 0 := by rw [h1]
  rw [enc_eq h2]; rfl
theorem decode_item {i : It} {b : List UInt8} (hi : inI i) (h : encode i = (b, 0)) : decode b = (i, 0) := by
  have := enc_back hi h
  unfold decode
  rw [this]

theorem decC_or (s : List UInt8) : decC s = (zeroC, 4) ∨ (decC s).2 = 0 := by
  unfold decC
  split
  · split
    · split
      · exact .inr rfl
      · exact .inl rfl
    · exact .inl rfl
  · exact .inl rfl
/-- Bytes are a command's just where it has them. -/
theorem decC_item {s : List UInt8} {c : Cmd} (h : decC s = (c, 0)) : decode s = (itemC c, 0) ∧ mayC c = true := by
  unfold decC at h
  split at h
  · rename_i h0
    split at h
    · rename_i hc
      split at h
      · rename_i hm
        cases h
        have := fm_cmd (decode_form h0) hc
        exact ⟨Prod.ext this h0, hm⟩
      · cases h
    · cases h
  · cases h
theorem decC_enc {s : List UInt8} {c : Cmd} (h : decC s = (c, 0)) : encC c = (s, 0) := by
  obtain ⟨h1, h2⟩ := decC_item h
  have h3 := decode_enc (s := s) (by rw [h1])
  rw [h1] at h3
  unfold encC
  rw [if_pos h2, ← encode_cmd h2]
  exact h3
theorem encC_may {c : Cmd} {s : List UInt8} (h : encC c = (s, 0)) : mayC c = true ∧ s = bytesC c := by
  unfold encC at h
  split at h
  · rename_i hm; cases h; exact ⟨hm, rfl⟩
  · cases h
theorem encC_item {c : Cmd} {s : List UInt8} (hc : inCmd c) (h : encC c = (s, 0)) : decode s = (itemC c, 0) := by
  obtain ⟨h1, rfl⟩ := encC_may h
  exact decode_item (in_cmd hc) (encode_cmd h1)
theorem encC_dec {c : Cmd} {s : List UInt8} (hc : inCmd c) (h : encC c = (s, 0)) : decC s = (c, 0) := by
  have h1 := encC_item hc h
  obtain ⟨h2, _⟩ := encC_may h
  have h3 : small c.op := by have := (mayC_iff.1 h2).1; exact ⟨by omega, by omega⟩
  unfold decC
  rw [h1]
  dsimp only
  rw [if_pos rfl, toC_item h3]
  dsimp only
  rw [if_pos h2]
theorem decR_or (s : List UInt8) : decR s = (zeroR, 4) ∨ (decR s).2 = 0 := by
  unfold decR
  split
  · split
    · split
      · exact .inr rfl
      · exact .inl rfl
    · exact .inl rfl
  · exact .inl rfl
theorem decR_item {s : List UInt8} {c : Rep} (h : decR s = (c, 0)) : decode s = (itemR c, 0) ∧ mayR c = true := by
  unfold decR at h
  split at h
  · rename_i h0
    split at h
    · rename_i hc
      split at h
      · rename_i hm
        cases h
        have := fm_rep (decode_form h0) hc
        exact ⟨Prod.ext this h0, hm⟩
      · cases h
    · cases h
  · cases h
theorem decR_enc {s : List UInt8} {c : Rep} (h : decR s = (c, 0)) : encR c = (s, 0) := by
  obtain ⟨h1, h2⟩ := decR_item h
  have h3 := decode_enc (s := s) (by rw [h1])
  rw [h1] at h3
  unfold encR
  rw [if_pos h2, ← encode_rep h2]
  exact h3
theorem encR_may {c : Rep} {s : List UInt8} (h : encR c = (s, 0)) : mayR c = true ∧ s = bytesRp c := by
  unfold encR at h
  split at h
  · rename_i hm; cases h; exact ⟨hm, rfl⟩
  · cases h
theorem encR_item {c : Rep} {s : List UInt8} (hc : inRep c) (h : encR c = (s, 0)) : decode s = (itemR c, 0) := by
  obtain ⟨h1, rfl⟩ := encR_may h
  exact decode_item (in_rep hc) (encode_rep h1)
theorem encR_dec {c : Rep} {s : List UInt8} (hc : inRep c) (h : encR c = (s, 0)) : decR s = (c, 0) := by
  have h1 := encR_item hc h
  obtain ⟨h2, _⟩ := encR_may h
  have h3 : small c.e := by have := mayR_iff.1 h2; exact ⟨by omega, by omega⟩
  unfold decR
  rw [h1]
  dsimp only
  rw [if_pos rfl, toR_item h3]
  dsimp only
  rw [if_pos h2]
end Go.AW.Cm
