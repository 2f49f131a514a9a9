import Derived.Test.YtmobiphgmdigjaaAw27
/- Items and their bytes; plain. -/
set_option linter.unusedVariables false
set_option linter.unusedSimpArgs false
namespace Go.AW.Wir
open Go Go.AW

def str (l : List UInt8) : T := .lit (.string ⟨l.toArray⟩)
abbrev u64 (n : Nat) : T := .lit (.int .u64 (n : Int))

inductive It where
  | mk (k n : Int) (s : List UInt8) (l : List It)
def It.k : It → Int | .mk k _ _ _ => k
def It.n : It → Int | .mk _ n _ _ => n
def It.s : It → List UInt8 | .mk _ _ s _ => s
def It.l : It → List It | .mk _ _ _ l => l
theorem It.eta (i : It) : It.mk i.k i.n i.s i.l = i := by cases i; rfl

mutual
def itCx : It → List T
  | .mk k n s l => [i64 k, i64 n, str s, .sl none 4 (itRx l)]
def itRx : List It → List (List T)
  | [] => []
  | i :: r => itCx i :: itRx r
end
theorem itRx_map : ∀ l : List It, itRx l = l.map itCx
  | [] => rfl
  | i :: r => by rw [itRx, itRx_map r, List.map_cons]
/-- The cells of an item. -/
def itC (i : It) : List T := [i64 i.k, i64 i.n, str i.s, .sl none 4 (i.l.map itCx)]
theorem itCx_eq : itCx = itC := by
  funext i
  cases i with
  | mk k n s l => rw [itCx, itRx_map]; rfl
def itR (l : List It) : List (List T) := l.map itC
theorem itC_eq (i : It) : itC i = [i64 i.k, i64 i.n, str i.s, .sl none 4 (itR i.l)] := by unfold itC itR; rw [itCx_eq]
def itT (i : It) : T := .agg (itC i)
theorem itR_len (l : List It) : (itR l).length = l.length := List.length_map _
theorem itR_append (a b : List It) : itR a ++ itR b = itR (a ++ b) := (List.map_append ..).symm
theorem itR_get {l : List It} {j : Nat} {i : It} (h : l[j]? = some i) : (itR l)[j]? = some (itC i) := by simp [itR, h]

/-- A number of some bytes. -/
def numB (l : List UInt8) : Nat := l.foldl (fun n c => n * 256 + c.toNat) 0
theorem numB_snoc (l : List UInt8) (c : UInt8) : numB (l ++ [c]) = numB l * 256 + c.toNat := by simp [numB, List.foldl_append]
theorem numB_acc (l : List UInt8) : ∀ a : Nat, l.foldl (fun n c => n * 256 + c.toNat) a < (a + 1) * 256 ^ l.length := by
  induction l with
  | nil => intro a; simp
  | cons c r ih =>
    intro a
    have h := ih (a * 256 + c.toNat)
    have hc := c.toNat_lt
    rw [List.foldl_cons, List.length_cons, Nat.pow_succ]
    refine Nat.lt_of_lt_of_le h ?_
    have h2 : a * 256 + c.toNat + 1 ≤ (a + 1) * 256 := by omega
    calc (a * 256 + c.toNat + 1) * 256 ^ r.length ≤ ((a + 1) * 256) * 256 ^ r.length := Nat.mul_le_mul_right _ h2
      _ = (a + 1) * (256 ^ r.length * 256) := by rw [Nat.mul_assoc, Nat.mul_comm 256]
theorem numB_lt (l : List UInt8) : numB l < 256 ^ l.length := by
  have := numB_acc l 0
  simpa [numB] using this

/-- A count, and what stands behind. -/
def cnt (b : List UInt8) : Option (Nat × List UInt8) :=
  match b with
  | [] => none
  | k :: r => if k.toNat > 8 ∨ k.toNat > r.length then none else if 0 < k.toNat ∧ r.head? = some 0 then none else some (numB (r.take k.toNat), r.drop k.toNat)
def siz (most : Nat) (b : List UInt8) : Option (Nat × List UInt8) :=
  match cnt b with
  | none => none
  | some (n, r) => if n > most then none else some (n, r)
def unzig (n : Nat) : Int := if n % 2 = 0 then (n / 2 : Nat) else -((n / 2 : Nat) : Int) - 1

mutual
/-- The item that some bytes begin with: what is left of how many there may be, and the bytes behind. -/
def dec : Nat → Int → List UInt8 → Option (It × Int × List UInt8)
  | 0, _, _ => none
  | f + 1, left, b => if left - 1 < 0 then none else match b with
    | [] => none
    | k :: r => if k = 1 then (match cnt r with | none => none | some (n, r) => some (.mk 1 (unzig n) [] [], left - 1, r))
      else if k = 2 then (match siz 4096 r with | none => none | some (n, r) => if n > r.length then none else some (.mk 2 0 (r.take n) [], left - 1, r.drop n))
      else if k = 3 then (match siz 4096 r with | none => none | some (n, r) => match decL f n (left - 1) r with | none => none | some (l, left, r) => some (.mk 3 0 [] l, left, r))
      else none
def decL : Nat → Nat → Int → List UInt8 → Option (List It × Int × List UInt8)
  | _, 0, left, b => some ([], left, b)
  | f, n + 1, left, b => match dec f left b with
    | none => none
    | some (i, left, b) => match decL f n left b with
      | none => none
      | some (l, left, b) => some (i :: l, left, b)
end
theorem dec_zero (left : Int) (b : List UInt8) : dec 0 left b = none := by rw [dec.eq_def]
theorem dec_nil (f : Nat) (left : Int) : dec (f + 1) left [] = none := by rw [dec.eq_def]; dsimp only; split <;> rfl
theorem dec_cons (f : Nat) (left : Int) (k : UInt8) (r : List UInt8) : dec (f + 1) left (k :: r) = if left - 1 < 0 then none else
      if k = 1 then (match cnt r with | none => none | some (n, r) => some (.mk 1 (unzig n) [] [], left - 1, r))
      else if k = 2 then (match siz 4096 r with | none => none | some (n, r) => if n > r.length then none else some (.mk 2 0 (r.take n) [], left - 1, r.drop n))
      else if k = 3 then (match siz 4096 r with | none => none | some (n, r) => match decL f n (left - 1) r with | none => none | some (l, left, r) => some (.mk 3 0 [] l, left, r))
      else none := by rw [dec.eq_def]
theorem decL_zero (f : Nat) (left : Int) (b : List UInt8) : decL f 0 left b = some ([], left, b) := by rw [decL.eq_def]
theorem decL_succ (f n : Nat) (left : Int) (b : List UInt8) : decL f (n + 1) left b = match dec f left b with
    | none => none
    | some (i, left, b) => match decL f n left b with
      | none => none
      | some (l, left, b) => some (i :: l, left, b) := by rw [decL.eq_def]
/-- No item. -/
def noIt : It := .mk 0 0 [] []
/-- What some bytes are. -/
def decode (b : List UInt8) : It × Int := match dec 12 4096 b with
  | some (i, _, []) => (i, 0)
  | _ => (noIt, 4)
end Go.AW.Wir

/- Values of items, and their bytes; plain. -/
set_option linter.unusedVariables false
set_option linter.unusedSimpArgs false
namespace Go.AW.Wir
open Go Go.AW

/-- A number's bytes, the least first. -/
def leF : Nat → Nat → List UInt8
  | 0, _ => []
  | f + 1, n => if n = 0 then [] else UInt8.ofNat n :: leF f (n / 256)
def le (n : Nat) : List UInt8 := leF 8 n
def cntB (n : Nat) : List UInt8 := UInt8.ofNat (le n).length :: (le n).reverse
theorem leF_len : ∀ f n, (leF f n).length ≤ f
  | 0, _ => Nat.le_refl _
  | f + 1, n => by
    simp only [leF]
    split
    · simp
    · rw [List.length_cons]; have := leF_len f (n / 256); omega
theorem le_len (n : Nat) : (le n).length ≤ 8 := leF_len 8 n
/-- What is left of a number behind some of its bytes. -/
theorem leF_split : ∀ f n k, k ≤ f → leF f n = (leF f n).take k ++ leF (f - k) (n / 256 ^ k)
  | f, n, 0, h => by simp
  | 0, n, k + 1, h => by omega
  | f + 1, n, k + 1, h => by
    simp only [leF]
    split
    · rename_i hn
      subst hn
      simp only [List.take_nil, List.nil_append, Nat.zero_div]
      cases e : f + 1 - (k + 1) <;> simp [leF]
    · have := leF_split f (n / 256) k (by omega)
      rw [List.take_succ_cons, List.cons_append, show f + 1 - (k + 1) = f - k by omega, Nat.pow_succ, Nat.mul_comm, ← Nat.div_div_eq_div_mul, ← this]
theorem leF_more (f n : Nat) (h : n < 256 ^ f) : leF (f + 1) n = leF f n := by
  induction f generalizing n with
  | zero => obtain rfl : n = 0 := by omega
            rfl
  | succ f ih =>
    by_cases hn : n = 0
    · subst hn; rfl
    · show (if n = 0 then _ else UInt8.ofNat n :: leF (f + 1) (n / 256)) = (if n = 0 then _ else UInt8.ofNat n :: leF f (n / 256))
      rw [if_neg hn, if_neg hn, ih]
      rw [Nat.pow_succ, Nat.mul_comm] at h
      exact Nat.div_lt_of_lt_mul h

/-- What an item becomes ahead of its bytes. -/
inductive Val where
  | num (n : Int)
  | txt (s : List UInt8)
  | lst (l : List Val)
  | bad
def zig (n : Int) : Nat := if 0 ≤ n then 2 * n.toNat else 2 * (-n).toNat - 1
mutual
def enV : Val → Option (List UInt8)
  | .num n => some (1 :: cntB (zig n))
  | .txt s => some (2 :: cntB s.length ++ s)
  | .lst l => match enL l with
    | none => none
    | some b => some (3 :: cntB l.length ++ b)
  | .bad => none
def enL : List Val → Option (List UInt8)
  | [] => some []
  | v :: r => match enV v, enL r with
    | some a, some b => some (a ++ b)
    | _, _ => none
end
mutual
def nI : It → Nat
  | .mk _ _ _ l => 1 + nL l
def nL : List It → Nat
  | [] => 0
  | i :: r => nI i + nL r
end
mutual
def dI : It → Nat
  | .mk _ _ _ l => 1 + dL l
def dL : List It → Nat
  | [] => 0
  | i :: r => max (dI i) (dL r)
end
mutual
def bigI : It → Bool
  | .mk k _ s l => (k == 2 && decide (4096 < s.length)) || bigL l
def bigL : List It → Bool
  | [] => false
  | i :: r => bigI i || bigL r
end
mutual
def vI : It → Val
  | .mk k n s l => if k = 1 ∧ s = [] ∧ l = [] then .num n else if k = 2 ∧ n = 0 ∧ l = [] then .txt s else if k ≠ 3 ∨ n ≠ 0 ∨ s ≠ [] then .bad else .lst (vL l)
def vL : List It → List Val
  | [] => []
  | i :: r => vI i :: vL r
end
theorem vL_map : ∀ l : List It, vL l = l.map vI
  | [] => rfl
  | i :: r => by rw [vL, vL_map r, List.map_cons]
theorem nL_append : ∀ a b : List It, nL (a ++ b) = nL a + nL b
  | [], b => by simp [nL]
  | i :: r, b => by rw [List.cons_append, nL, nL, nL_append r b]; omega
theorem nI_pos (i : It) : 1 ≤ nI i := by cases i; rw [nI]; omega
theorem dI_pos (i : It) : 1 ≤ dI i := by cases i; rw [dI]; omega
/-- It may be told, at a depth, of so many. -/
def okc (i : It) (deep left : Int) : Prop := (nI i : Int) ≤ left ∧ deep + dI i ≤ 13 ∧ bigI i = false
def okl (l : List It) (deep left : Int) : Prop := (nL l : Int) ≤ left ∧ (l = [] ∨ deep + dL l ≤ 13) ∧ bigL l = false
theorem okl_cons {i : It} {r : List It} {deep left : Int} : okl (i :: r) deep left ↔ okc i deep left ∧ okl r deep (left - nI i) := by
  unfold okl okc
  rw [nL, dL, bigL, Bool.or_eq_false_iff]
  have hp := dI_pos i
  constructor
  · rintro ⟨h1, h2, h3, h4⟩
    have h2 := h2.resolve_left (List.cons_ne_nil _ _)
    exact ⟨⟨by omega, by omega, h3⟩, by omega, .inr (by omega), h4⟩
  · rintro ⟨⟨h1, h2, h3⟩, h4, h5, h6⟩
    refine ⟨by omega, .inr ?_, h3, h6⟩
    rcases h5 with rfl | h5
    · rw [dL]; omega
    · omega
theorem okc_mk {k n : Int} {s : List UInt8} {l : List It} {deep left : Int} : okc (.mk k n s l) deep left ↔ 0 ≤ left - 1 ∧ deep ≤ 12 ∧ ¬ (k = 2 ∧ 4096 < s.length) ∧ okl l (deep + 1) (left - 1) := by
  unfold okc okl
  rw [nI, dI, bigI, Bool.or_eq_false_iff]
  have hb : (k == 2 && decide (4096 < s.length)) = false ↔ ¬ (k = 2 ∧ 4096 < s.length) := by
    rw [← Bool.not_eq_true, Bool.and_eq_true, beq_iff_eq, decide_eq_true_eq]
  rw [hb]
  constructor
  · rintro ⟨h1, h2, h3, h4⟩
    exact ⟨by omega, by omega, h3, by omega, .inr (by omega), h4⟩
  · rintro ⟨h1, h2, h3, h4, h5, h6⟩
    refine ⟨by omega, ?_, h3, h6⟩
    rcases h5 with rfl | h5
    · rw [dL]; omega
    · omega
end Go.AW.Wir

/- Values' sizes and ranges; plain. -/
set_option linter.unusedVariables false
set_option linter.unusedSimpArgs false
namespace Go.AW.Wir
open Go Go.AW

mutual
/-- No more bytes than so many. -/
def szV : Val → Nat
  | .num _ => 10
  | .txt s => 10 + s.length
  | .lst l => 10 + szL l
  | .bad => 1
def szL : List Val → Nat
  | [] => 0
  | v :: r => szV v + szL r
end
mutual
def inV : Val → Prop
  | .num n => -9223372036854775808 ≤ n ∧ n ≤ 9223372036854775807
  | .txt _ => True
  | .lst l => inL l
  | .bad => True
def inL : List Val → Prop
  | [] => True
  | v :: r => inV v ∧ inL r
end
theorem szV_pos (v : Val) : 1 ≤ szV v := by cases v <;> rw [szV] <;> omega
theorem szL_len : ∀ l : List Val, l.length ≤ szL l
  | [] => Nat.zero_le _
  | v :: r => by
    rw [szL, List.length_cons]
    have := szV_pos v
    have := szL_len r
    omega
theorem cntB_len (n : Nat) : (cntB n).length ≤ 9 := by
  have := le_len n
  simp only [cntB, List.length_cons, List.length_reverse]
  omega
mutual
theorem enV_len : ∀ {v : Val} {b : List UInt8}, enV v = some b → b.length ≤ szV v
  | .num n, b, h => by
    rw [enV] at h; cases h
    have := cntB_len (zig n)
    rw [szV, List.length_cons]; omega
  | .txt s, b, h => by
    rw [enV] at h; cases h
    have := cntB_len s.length
    rw [szV, List.length_append, List.length_cons]; omega
  | .lst l, b, h => by
    rw [enV] at h
    cases e : enL l with
    | none => rw [e] at h; cases h
    | some o =>
      rw [e] at h; cases h
      have := cntB_len l.length
      have := enL_len e
      rw [szV, List.length_append, List.length_cons]; omega
  | .bad, b, h => by rw [enV] at h; cases h
theorem enL_len : ∀ {l : List Val} {b : List UInt8}, enL l = some b → b.length ≤ szL l
  | [], b, h => by rw [enL] at h; cases h; exact Nat.zero_le _
  | v :: r, b, h => by
    rw [enL] at h
    cases e : enV v with
    | none => rw [e] at h; cases h
    | some a =>
      cases e2 : enL r with
      | none => rw [e, e2] at h; cases h
      | some o =>
        rw [e, e2] at h; cases h
        have := enV_len e
        have := enL_len e2
        rw [szL, List.length_append]; omega
end
theorem inL_mem : ∀ {l : List Val} {v : Val}, inL l → v ∈ l → inV v
  | w :: r, v, h, hm => by
    rw [inL] at h
    rcases List.mem_cons.1 hm with rfl | hm
    · exact h.1
    · exact inL_mem h.2 hm
/-- What is left of a list's bytes. -/
theorem enL_step {l : List Val} {v : Val} {r : List Val} {a b : List UInt8} (h : enL l = (enL (v :: r)).map (a ++ ·)) (hv : enV v = some b) : enL l = (enL r).map ((a ++ b) ++ ·) := by
  rw [h, enL, hv]
  cases enL r with
  | none => rfl
  | some o => simp
theorem enL_stop {l : List Val} {v : Val} {r : List Val} {a : List UInt8} (h : enL l = (enL (v :: r)).map (a ++ ·)) (hv : enV v = none) : enL l = none := by
  rw [h, enL, hv]
  rfl
mutual
def inI : It → Prop
  | .mk _ n _ l => ((-9223372036854775808 ≤ n ∧ n ≤ 9223372036854775807) ∧ l.length ≤ 9223372036854775807) ∧ inIs l
def inIs : List It → Prop
  | [] => True
  | i :: r => inI i ∧ inIs r
end
mutual
theorem inV_vI : ∀ {i : It}, inI i → inV (vI i)
  | .mk k n s l, h => by
    rw [inI] at h
    rw [vI]
    split
    · rw [inV]; exact h.1.1
    · split
      · rw [inV]; trivial
      · split
        · rw [inV]; trivial
        · rw [inV]; exact inL_vL h.2
theorem inL_vL : ∀ {l : List It}, inIs l → inL (vL l)
  | [], h => by rw [vL, inL]; trivial
  | i :: r, h => by
    rw [inIs] at h
    rw [vL, inL]
    exact ⟨inV_vI h.1, inL_vL h.2⟩
end
mutual
theorem szV_vI : ∀ {i : It}, bigI i = false → szV (vI i) ≤ 4106 * nI i
  | .mk k n s l, h => by
    rw [bigI, Bool.or_eq_false_iff] at h
    rw [vI, nI]
    split
    · rw [szV]; omega
    · split
      · rename_i hk
        rw [szV]
        have h1 := h.1
        rw [hk.1] at h1
        have : ¬ 4096 < s.length := fun hh => by rw [decide_eq_true hh] at h1; cases h1
        omega
      · split
        · rw [szV]; omega
        · rw [szV]
          have := szL_vL h.2
          omega
theorem szL_vL : ∀ {l : List It}, bigL l = false → szL (vL l) ≤ 4106 * nL l
  | [], h => by rw [vL, szL]; omega
  | i :: r, h => by
    rw [bigL, Bool.or_eq_false_iff] at h
    rw [vL, szL, nL]
    have := szV_vI h.1
    have := szL_vL h.2
    omega
end
end Go.AW.Wir

/- Items counted, texts counted, items compared; plain. -/
set_option linter.unusedVariables false
set_option linter.unusedSimpArgs false
namespace Go.AW.Wir
open Go Go.AW

mutual
/-- How many items there are, and how deep: up to some. -/
def itN : It → Int → Int → Int × Int
  | .mk _ _ _ l, most, deep => itNL l most deep 1 deep
def itNL : List It → Int → Int → Int → Int → Int × Int
  | [], _, _, n, d => (n, d)
  | i :: r, most, deep, n, d => if n ≤ most ∧ deep ≤ 12 then itNL r most deep (n + (itN i (most - n) (deep + 1)).1) (if d < (itN i (most - n) (deep + 1)).2 then (itN i (most - n) (deep + 1)).2 else d) else (n, d)
end
theorem itN_mk (k n : Int) (s : List UInt8) (l : List It) (most deep : Int) : itN (.mk k n s l) most deep = itNL l most deep 1 deep := by rw [itN]
theorem itNL_nil (most deep n d : Int) : itNL [] most deep n d = (n, d) := by rw [itNL]
theorem itNL_cons (i : It) (r : List It) (most deep n d : Int) : itNL (i :: r) most deep n d = if n ≤ most ∧ deep ≤ 12 then itNL r most deep (n + (itN i (most - n) (deep + 1)).1) (if d < (itN i (most - n) (deep + 1)).2 then (itN i (most - n) (deep + 1)).2 else d) else (n, d) := by rw [itNL]
mutual
theorem itN_rng : ∀ (i : It) (most deep : Int), 0 ≤ most → deep ≤ 13 → 1 ≤ (itN i most deep).1 ∧ (itN i most deep).1 ≤ most + 1 ∧ deep ≤ (itN i most deep).2 ∧ (itN i most deep).2 ≤ 13
  | .mk _ _ _ l, most, deep, hm, hd => by
    rw [itN_mk]
    obtain ⟨h1, h2, h3, h4⟩ := itNL_rng l most deep 1 deep (by omega) hd (by omega) (by omega)
    exact ⟨h1, h2, h3, h4⟩
theorem itNL_rng : ∀ (l : List It) (most deep n d : Int), n ≤ most + 1 → deep ≤ 13 → 1 ≤ n → d ≤ 13 → n ≤ (itNL l most deep n d).1 ∧ (itNL l most deep n d).1 ≤ most + 1 ∧ d ≤ (itNL l most deep n d).2 ∧ (itNL l most deep n d).2 ≤ 13
  | [], most, deep, n, d, h1, h2, h3, h4 => by rw [itNL_nil]; exact ⟨Int.le_refl _, h1, Int.le_refl _, h4⟩
  | i :: r, most, deep, n, d, h1, h2, h3, h4 => by
    rw [itNL_cons]
    split
    · rename_i hc
      obtain ⟨g1, g2, g3, g4⟩ := itN_rng i (most - n) (deep + 1) (by omega) (by omega)
      generalize itN i (most - n) (deep + 1) = p at g1 g2 g3 g4
      have hd2 : d ≤ (if d < p.2 then p.2 else d) ∧ (if d < p.2 then p.2 else d) ≤ 13 := by split <;> omega
      obtain ⟨f1, f2, f3, f4⟩ := itNL_rng r most deep (n + p.1) (if d < p.2 then p.2 else d) (by omega) h2 (by omega) hd2.2
      exact ⟨by omega, f2, by omega, f4⟩
    · exact ⟨Int.le_refl _, h1, Int.le_refl _, h4⟩
end
mutual
theorem itN_true : ∀ (i : It) (most deep : Int), 0 ≤ most → deep ≤ 12 → (itN i most deep).1 ≤ most → (itN i most deep).2 ≤ 12 → (itN i most deep).1 = nI i ∧ (itN i most deep).2 = deep + dI i - 1
  | .mk _ _ _ l, most, deep, hm, hd, h1, h2 => by
    rw [itN_mk] at h1 h2 ⊢
    have hn : 1 ≤ most := by
      have := itNL_rng l most deep 1 deep (by omega) (by omega) (by omega) (by omega)
      omega
    obtain ⟨g1, g2⟩ := itNL_true l most deep 1 deep hn hd (by omega) (Int.le_refl _) (by omega) h1 h2
    rw [g1, g2, nI, dI]
    cases l with
    | nil => rw [nL, dL]; simp only [if_pos]; omega
    | cons i r =>
      rw [if_neg (List.cons_ne_nil _ _)]
      have : 1 ≤ dL (i :: r) := by rw [dL]; have := dI_pos i; omega
      split <;> omega
theorem itNL_true : ∀ (l : List It) (most deep n d : Int), n ≤ most → deep ≤ 12 → 1 ≤ n → deep ≤ d → d ≤ 12 → (itNL l most deep n d).1 ≤ most → (itNL l most deep n d).2 ≤ 12 →
    (itNL l most deep n d).1 = n + nL l ∧ (itNL l most deep n d).2 = if l = [] then d else if d < deep + dL l then deep + dL l else d
  | [], most, deep, n, d, h1, h2, h3, h4, h5, h6, h7 => by rw [itNL_nil, nL]; exact ⟨by simp, by rw [if_pos rfl]⟩
  | i :: r, most, deep, n, d, h1, h2, h3, h4, h5, h6, h7 => by
    rw [itNL_cons, if_pos ⟨h1, h2⟩] at h6 h7 ⊢
    have hr := itN_rng i (most - n) (deep + 1) (by omega) (by omega)
    have ht := itN_true i (most - n) (deep + 1) (by omega)
    generalize itN i (most - n) (deep + 1) = p at hr ht h6 h7 ⊢
    have hd2 : d ≤ (if d < p.2 then p.2 else d) ∧ (if d < p.2 then p.2 else d) ≤ 13 ∧ p.2 ≤ (if d < p.2 then p.2 else d) := by split <;> omega
    have hr2 := itNL_rng r most deep (n + p.1) (if d < p.2 then p.2 else d) (by omega) (by omega) (by omega) hd2.2.1
    have hn : n + p.1 ≤ most := by omega
    have hdd : (if d < p.2 then p.2 else d) ≤ 12 := by omega
    have hp2 : p.2 ≤ 12 := by omega
    obtain ⟨t1, t2⟩ := ht (by omega) (by omega) hp2
    obtain ⟨g1, g2⟩ := itNL_true r most deep (n + p.1) (if d < p.2 then p.2 else d) hn h2 (by omega) (by omega) hdd h6 h7
    rw [g1, g2, nL, dL, if_neg (List.cons_ne_nil _ _), t1, t2]
    refine ⟨by omega, ?_⟩
    have hp := dI_pos i
    cases r with
    | nil => rw [if_pos rfl, dL]; split <;> split <;> omega
    | cons a b =>
      rw [if_neg (List.cons_ne_nil _ _)]
      generalize dL (a :: b) = q
      split <;> split <;> split <;> omega
end

mutual
/-- How many bytes texts have, and what is left of how many items may be looked at. -/
def wiN : It → Int → Int → Int × Int
  | .mk _ _ s l, deep, many => if deep < 1 ∨ many - 1 < 0 then (1048577, many - 1) else wiNL l (deep - 1) (many - 1) (min (s.length : Int) 1048576)
def wiNL : List It → Int → Int → Int → Int × Int
  | [], _, many, n => (n, many)
  | i :: r, deep, many, n => if n ≤ 1048576 then wiNL r deep (wiN i deep many).2 (n + (wiN i deep many).1) else wiNL r deep many n
end
theorem wiN_mk (k n : Int) (s : List UInt8) (l : List It) (deep many : Int) : wiN (.mk k n s l) deep many = if deep < 1 ∨ many - 1 < 0 then (1048577, many - 1) else wiNL l (deep - 1) (many - 1) (min (s.length : Int) 1048576) := by rw [wiN]
theorem wiNL_nil (deep many n : Int) : wiNL [] deep many n = (n, many) := by rw [wiNL]
theorem wiNL_cons (i : It) (r : List It) (deep many n : Int) : wiNL (i :: r) deep many n = if n ≤ 1048576 then wiNL r deep (wiN i deep many).2 (n + (wiN i deep many).1) else wiNL r deep many n := by rw [wiNL]
/-- What is told of a count of bytes. -/
def wiOk (deep many : Int) (p : Int × Int) : Prop := 0 ≤ p.1 ∧ p.1 ≤ 1048577 * (deep + 2) ∧ -1 ≤ p.2 ∧ p.2 ≤ many ∧ (p.2 < 0 → 1048576 < p.1)
mutual
theorem wiN_rng : ∀ (i : It) (deep many : Int), 0 ≤ deep → 0 ≤ many → wiOk deep many (wiN i deep many)
  | .mk _ _ s l, deep, many, hd, hm => by
    rw [wiN_mk]
    split
    · exact ⟨by dsimp only; omega, by dsimp only; omega, by dsimp only; omega, by dsimp only; omega, fun _ => by dsimp only; omega⟩
    · obtain ⟨h1, h2, h3, h4, h5⟩ := wiNL_rng l (deep - 1) (many - 1) (min (s.length : Int) 1048576) (by omega) (by omega) (by omega) (by omega) (by omega)
      exact ⟨h1, by omega, h3, by omega, h5⟩
theorem wiNL_rng : ∀ (l : List It) (deep many n : Int), 0 ≤ deep → -1 ≤ many → 0 ≤ n → n ≤ 1048577 * (deep + 3) → (many < 0 → 1048576 < n) →
    0 ≤ (wiNL l deep many n).1 ∧ (wiNL l deep many n).1 ≤ 1048577 * (deep + 3) ∧ -1 ≤ (wiNL l deep many n).2 ∧ (wiNL l deep many n).2 ≤ many ∧ ((wiNL l deep many n).2 < 0 → 1048576 < (wiNL l deep many n).1)
  | [], deep, many, n, h1, h2, h3, h4, h5 => by rw [wiNL_nil]; exact ⟨h3, h4, h2, Int.le_refl _, h5⟩
  | i :: r, deep, many, n, h1, h2, h3, h4, h5 => by
    rw [wiNL_cons]
    split
    · rename_i hn
      obtain ⟨g1, g2, g3, g4, g5⟩ := wiN_rng i deep many h1 (by omega)
      generalize wiN i deep many = p at g1 g2 g3 g4 g5
      obtain ⟨f1, f2, f3, f4, f5⟩ := wiNL_rng r deep p.2 (n + p.1) h1 g3 (by omega) (by omega) (by omega)
      exact ⟨f1, f2, f3, by omega, f5⟩
    · exact wiNL_rng r deep many n h1 h2 h3 h4 h5
end
end Go.AW.Wir

/- Lists' bytes; plain. -/
set_option linter.unusedVariables false
set_option linter.unusedSimpArgs false
namespace Go.AW.Wir
open Go Go.AW

open Classical in
/-- An item's bytes, or why there are none. -/
noncomputable def encode (i : It) : List UInt8 × Int := if okc i 1 4096 then (match enV (vI i) with | some b => (b, 0) | none => ([], 4)) else ([], 3)
theorem enc_of {i : It} {b : List UInt8} (ho : okc i 1 4096) (h : enV (vI i) = some b) : encode i = (b, 0) := by unfold encode; rw [if_pos ho, h]
theorem enc_bad {i : It} (ho : okc i 1 4096) (h : enV (vI i) = none) : encode i = ([], 4) := by unfold encode; rw [if_pos ho, h]
theorem enc_not {i : It} (ho : ¬ okc i 1 4096) : encode i = ([], 3) := by unfold encode; rw [if_neg ho]
/-- It has bytes just where it may be told and has its form. -/
theorem enc_iff {i : It} : (encode i).2 = 0 ↔ okc i 1 4096 ∧ ∃ b, enV (vI i) = some b := by
  by_cases ho : okc i 1 4096
  · cases h : enV (vI i) with
    | none => rw [enc_bad ho h]; simp
    | some b => rw [enc_of ho h]; simp [ho]
  · rw [enc_not ho]; simp [ho]
theorem enc_eq {i : It} (h : (encode i).2 = 0) : enV (vI i) = some (encode i).1 := by
  obtain ⟨ho, b, hb⟩ := enc_iff.1 h
  rw [hb, enc_of ho hb]
theorem enc_len (i : It) : (encode i).1.length ≤ 16818176 := by
  by_cases ho : okc i 1 4096
  · cases h : enV (vI i) with
    | none => rw [enc_bad ho h]; exact Nat.zero_le _
    | some b =>
      rw [enc_of ho h]
      have h1 := enV_len h
      have h2 := szV_vI ho.2.2
      have h3 := ho.1
      show b.length ≤ _
      omega
  · rw [enc_not ho]; exact Nat.zero_le _
theorem vI_row (l : List It) : vI (.mk 3 0 [] l) = .lst (vL l) := by
  rw [vI, if_neg (by simp), if_neg (by simp), if_neg (by simp)]
theorem cntB2 : cntB 2 = [1, 2] := by rfl

theorem lists_plain (i j : It) (hi : (nI i : Int) ≤ 2000) (hj : (nI j : Int) ≤ 2000) (di : (dI i : Int) ≤ 11) (dj : (dI j : Int) ≤ 11) :
    (((encode i).2 ≠ 0 ∨ (encode j).2 ≠ 0) → (encode (.mk 3 0 [] [i, j])).2 ≠ 0) ∧ ((encode i).2 = 0 → (encode j).2 = 0 → encode (.mk 3 0 [] [i, j]) = (3 :: 1 :: 2 :: ((encode i).1 ++ (encode j).1), 0)) := by
  have hok : okc (.mk 3 0 [] [i, j]) 1 4096 ↔ okc i 1 4096 ∧ okc j 1 4096 := by
    unfold okc
    rw [nI, nL, nL, nL, dI, dL, dL, dL, bigI, bigL, bigL, bigL]
    simp only [List.length_nil, Bool.or_false, Bool.or_eq_false_iff, Bool.and_eq_false_iff]
    constructor
    · rintro ⟨h1, h2, h3, h4, h5⟩
      exact ⟨⟨by omega, by omega, h4⟩, by omega, by omega, h5⟩
    · rintro ⟨⟨h1, h2, h3⟩, h4, h5, h6⟩
      exact ⟨by omega, by omega, .inl (by decide), h3, h6⟩
  have hen : ∀ {a b : List UInt8}, enV (vI i) = some a → enV (vI j) = some b → enV (vI (.mk 3 0 [] [i, j])) = some (3 :: 1 :: 2 :: (a ++ b)) := by
    intro a b ha hb
    rw [vI_row, enV, vL, vL, vL, enL, ha, enL, hb, enL]
    simp [cntB2]
  have hno : (∃ c, enV (vI (.mk 3 0 [] [i, j])) = some c) → (∃ a, enV (vI i) = some a) ∧ ∃ b, enV (vI j) = some b := by
    rintro ⟨c, hc⟩
    rw [vI_row, enV, vL, vL, vL, enL, enL] at hc
    cases ha : enV (vI i) with
    | none => rw [ha] at hc; cases hc
    | some a =>
      cases hb : enV (vI j) with
      | none => rw [ha, hb] at hc; cases hc
      | some b => exact ⟨⟨a, rfl⟩, b, rfl⟩
  refine ⟨fun h h2 => ?_, fun h1 h2 => ?_⟩
  · obtain ⟨ho, hc⟩ := enc_iff.1 h2
    obtain ⟨o1, o2⟩ := hok.1 ho
    obtain ⟨a, b⟩ := hno hc
    rcases h with h | h
    · exact h (enc_iff.2 ⟨o1, a⟩)
    · exact h (enc_iff.2 ⟨o2, b⟩)
  · exact enc_of (hok.2 ⟨(enc_iff.1 h1).1, (enc_iff.1 h2).1⟩) (hen (enc_eq h1) (enc_eq h2))
end Go.AW.Wir

/- A count's bytes, read; plain. -/
set_option linter.unusedVariables false
set_option linter.unusedSimpArgs false
namespace Go.AW.Wir
open Go Go.AW

theorem numB_cons (c : UInt8) (l : List UInt8) : numB (c :: l) = c.toNat * 256 ^ l.length + numB l := by
  have h : ∀ (l : List UInt8) (a : Nat), l.foldl (fun n c => n * 256 + c.toNat) a = a * 256 ^ l.length + numB l := by
    intro l
    induction l with
    | nil => intro a; simp [numB]
    | cons d r ih =>
      intro a
      rw [List.foldl_cons, ih, List.length_cons, Nat.pow_succ]
      have : numB (d :: r) = d.toNat * 256 ^ r.length + numB r := by
        show (d :: r).foldl _ 0 = _
        rw [List.foldl_cons, ih]
        simp
      rw [this, Nat.add_mul, Nat.add_assoc, Nat.mul_assoc, Nat.mul_comm 256]
  show (c :: l).foldl _ 0 = _
  rw [List.foldl_cons, h]
  simp
theorem numB_pos {l : List UInt8} (hne : l ≠ []) (hl : l.head? ≠ some 0) : numB l ≠ 0 := by
  cases l with
  | nil => exact absurd rfl hne
  | cons c r =>
    rw [numB_cons]
    have hc : c.toNat ≠ 0 := fun e => hl (by rw [List.head?_cons]; exact congrArg some (UInt8.toNat_inj.1 (by rw [e]; rfl)))
    have h1 : 0 < 256 ^ r.length := Nat.pow_pos (by decide)
    have h2 : 0 < c.toNat * 256 ^ r.length := Nat.mul_pos (by omega) h1
    omega
/-- The bytes of a number, the least first, are read back. -/
theorem leF_num : ∀ (f : Nat) (l : List UInt8), l.head? ≠ some 0 → l.length ≤ f → leF f (numB l) = l.reverse
  | 0, l, hl, h => by
    obtain rfl : l = [] := List.length_eq_zero_iff.1 (by omega)
    rfl
  | f + 1, l, hl, h => by
    by_cases hne : l = []
    · subst hne; rfl
    · have hd := List.dropLast_concat_getLast hne
      have h0 := numB_pos hne hl
      generalize l.getLast hne = c at hd
      generalize l.dropLast = r at hd
      subst hd
      show (if numB (r ++ [c]) = 0 then [] else UInt8.ofNat (numB (r ++ [c])) :: leF f (numB (r ++ [c]) / 256)) = _
      rw [if_neg h0, numB_snoc]
      have hc := c.toNat_lt
      have h1 : UInt8.ofNat (numB r * 256 + c.toNat) = c := by
        apply UInt8.toNat_inj.1
        rw [UInt8.toNat_ofNat']
        omega
      have h2 : (numB r * 256 + c.toNat) / 256 = numB r := by omega
      rw [h1, h2, leF_num f r ?_ (by simp at h; omega)]
      · simp
      · cases r with
        | nil => simp
        | cons d t => simpa using hl
/-- A count that is read is its number's bytes. -/
theorem cnt_back {b r : List UInt8} {n : Nat} (h : cnt b = some (n, r)) : b = cntB n ++ r := by
  unfold cnt at h
  split at h
  · cases h
  · rename_i k t
    split at h
    · cases h
    · rename_i h1
      split at h
      · cases h
      · rename_i h2
        cases h
        have hk : (t.take k.toNat).length = k.toNat := by rw [List.length_take]; omega
        have hle : le (numB (t.take k.toNat)) = (t.take k.toNat).reverse := by
          refine leF_num 8 _ ?_ (by omega)
          intro e
          refine h2 ⟨?_, ?_⟩
          · cases hz : k.toNat with
            | zero => rw [hz, List.take_zero] at e; cases e
            | succ m => omega
          · cases t with
            | nil => simp at e
            | cons d u =>
              cases hz : k.toNat with
              | zero => rw [hz] at e; simp at e
              | succ m => rw [hz, List.take_succ_cons] at e; simpa using e
        unfold cntB
        rw [hle, List.length_reverse, hk, List.reverse_reverse, List.cons_append, List.take_append_drop]
        congr 1
        exact UInt8.toNat_inj.1 (by rw [UInt8.toNat_ofNat']; have := k.toNat_lt; omega)
theorem siz_back {m : Nat} {b r : List UInt8} {n : Nat} (h : siz m b = some (n, r)) : b = cntB n ++ r ∧ n ≤ m := by
  unfold siz at h
  split at h
  · cases h
  · rename_i hc
    split at h
    · cases h
    · cases h
      exact ⟨cnt_back hc, by omega⟩
theorem zig_unzig (n : Nat) : zig (unzig n) = n := by
  unfold zig unzig
  split <;> split <;> omega
end Go.AW.Wir

/- What is decoded is encoded again; plain. -/
set_option linter.unusedVariables false
set_option linter.unusedSimpArgs false
namespace Go.AW.Wir
open Go Go.AW

/-- What is told of an item that was read. -/
def Bk (f : Nat) (left left' : Int) (b r : List UInt8) (i : It) : Prop :=
  (∃ e, enV (vI i) = some e ∧ b = e ++ r) ∧ (nI i : Int) = left - left' ∧ dI i ≤ f ∧ bigI i = false ∧ 0 ≤ left'
def BkL (f : Nat) (left left' : Int) (b r : List UInt8) (l : List It) : Prop :=
  (∃ e, enL (vL l) = some e ∧ b = e ++ r) ∧ (nL l : Int) = left - left' ∧ dL l ≤ f ∧ bigL l = false
theorem decL_back {f : Nat} (ih : ∀ {left left' : Int} {b r : List UInt8} {i : It}, dec f left b = some (i, left', r) → Bk f left left' b r i) :
    ∀ (n : Nat) {left left' : Int} {b r : List UInt8} {l : List It}, decL f n left b = some (l, left', r) → BkL f left left' b r l ∧ l.length = n ∧ (0 ≤ left → 0 ≤ left')
  | 0, left, left', b, r, l, h => by
    rw [decL_zero] at h
    cases h
    refine ⟨⟨⟨[], by rw [vL, enL], rfl⟩, by rw [nL]; omega, by rw [dL]; omega, by rw [bigL]⟩, rfl, id⟩
  | n + 1, left, left', b, r, l, h => by
    rw [decL_succ] at h
    cases hd : dec f left b with
    | none => rw [hd] at h; cases h
    | some p =>
      obtain ⟨i, a, q⟩ := p
      obtain ⟨⟨e, he, hb⟩, h2, h3, h4, h0⟩ := ih hd
      rw [hd] at h
      dsimp only at h
      cases hl : decL f n a q with
      | none => rw [hl] at h; cases h
      | some p =>
        obtain ⟨l', a', q'⟩ := p
        rw [hl] at h
        cases h
        obtain ⟨⟨⟨e', he', hb'⟩, g2, g3, g4⟩, g5, g6⟩ := decL_back ih n hl
        refine ⟨⟨⟨e ++ e', by rw [vL, enL, he, he'], by rw [hb, hb', List.append_assoc]⟩, by rw [nL]; omega, by rw [dL]; omega, by rw [bigL, h4, g4]; rfl⟩, by rw [List.length_cons, g5], fun _ => g6 h0⟩
theorem dec_back : ∀ {f : Nat} {left left' : Int} {b r : List UInt8} {i : It}, dec f left b = some (i, left', r) → Bk f left left' b r i
  | 0, left, left', b, r, i, h => by rw [dec_zero] at h; cases h
  | f + 1, left, left', b, r, i, h => by
    cases b with
    | nil => rw [dec_nil] at h; cases h
    | cons k t =>
      rw [dec_cons] at h
      split at h
      · cases h
      rename_i hl
      split at h
      · rename_i hk
        split at h
        · cases h
        · rename_i n q hc
          cases h
          refine ⟨⟨1 :: cntB n, ?_, by rw [hk, List.cons_append, ← cnt_back hc]⟩, by rw [nI, nL]; omega, by rw [dI, dL]; omega, ?_, by omega⟩
          · rw [vI, if_pos ⟨rfl, rfl, rfl⟩, enV, zig_unzig]
          · rw [bigI, bigL]; rfl
      · split at h
        · rename_i hk
          split at h
          · cases h
          · rename_i n q hc
            split at h
            · cases h
            · rename_i hn
              cases h
              obtain ⟨g1, g2⟩ := siz_back hc
              have hlen : (q.take n).length = n := by rw [List.length_take]; omega
              refine ⟨⟨2 :: cntB n ++ q.take n, ?_, by rw [hk, g1]; simp⟩, by rw [nI, nL]; omega, by rw [dI, dL]; omega, ?_, by omega⟩
              · rw [vI, if_neg (by simp), if_pos ⟨rfl, rfl, rfl⟩, enV, hlen]
              · rw [bigI, bigL, hlen, decide_eq_false (by omega)]; rfl
        · split at h
          · rename_i hk
            split at h
            · cases h
            · rename_i n q hc
              split at h
              · cases h
              · rename_i l a q' hd
                cases h
                obtain ⟨g1, g2⟩ := siz_back hc
                obtain ⟨⟨⟨e, he, hb⟩, k2, k3, k4⟩, k5, k6⟩ := decL_back (fun h => dec_back h) _ hd
                refine ⟨⟨3 :: cntB n ++ e, ?_, by rw [hk, g1, hb]; simp⟩, by rw [nI]; omega, by rw [dI]; omega, ?_, k6 (by omega)⟩
                · rw [vI_row, enV, he, vL_map, List.length_map, k5]
                · rw [bigI, k4]; rfl
          · cases h
/-- An item that was decoded has the bytes that it was decoded of. -/
theorem dec_enc {b : List UInt8} {i : It} {left : Int} (h : dec 12 4096 b = some (i, left, [])) : encode i = (b, 0) := by
  obtain ⟨⟨e, he, hb⟩, h1, h2, h3, h4⟩ := dec_back h
  rw [List.append_nil] at hb
  subst hb
  exact enc_of ⟨by omega, by omega, h3⟩ he
end Go.AW.Wir

/- The reference's reader; plain. -/
set_option linter.unusedVariables false
set_option linter.unusedSimpArgs false
namespace Go.AW.Wir
open Go Go.AW

/-- One byte read: its number, where one stands, whether it went wrong. -/
def rbyte (b : List UInt8) (a : Nat) (bad : Bool) : Nat × Nat × Bool :=
  if bad = true then (0, a, true) else match b[a]? with
    | none => (0, a, true)
    | some c => (c.toNat, a + 1, false)
/-- A count's bytes read. -/
def rcl (b : List UInt8) (k : Nat) : Nat → Nat → Nat → Nat → Bool → Nat × Nat × Bool
  | 0, _, n, a, bad => (n, a, bad)
  | d + 1, j, n, a, bad => if bad = true then (n, a, bad) else
      rcl b k d (j + 1) ((n * 256 + (rbyte b a false).1) % 18446744073709551616) (rbyte b a false).2.1 (if (j = 0 ∧ (rbyte b a false).1 = 0) ∨ 8 < k then true else (rbyte b a false).2.2)
def rcount (b : List UInt8) (a : Nat) (bad : Bool) : Nat × Nat × Bool :=
  rcl b (rbyte b a bad).1 (rbyte b a bad).1 0 0 (rbyte b a bad).2.1 (rbyte b a bad).2.2
mutual
def ritem (b : List UInt8) : Nat → Int → Nat → It × Int × Nat × Bool
  | 0, left, a => (.mk 0 0 [] [], left - 1, a, true)
  | f + 1, left, a => if left - 1 < 0 then (.mk 0 0 [] [], left - 1, a, true) else
      if (rbyte b a false).1 = 1 then (.mk 1 (unzig (rcount b (rbyte b a false).2.1 (rbyte b a false).2.2).1) [] [], left - 1, (rcount b (rbyte b a false).2.1 (rbyte b a false).2.2).2)
      else if (rbyte b a false).1 = 2 then
        (if 4096 < (rcount b (rbyte b a false).2.1 (rbyte b a false).2.2).1 ∨ (rcount b (rbyte b a false).2.1 (rbyte b a false).2.2).2.2 = true ∨ b.length - (rcount b (rbyte b a false).2.1 (rbyte b a false).2.2).2.1 < (rcount b (rbyte b a false).2.1 (rbyte b a false).2.2).1 then
            (.mk 2 0 [] [], left - 1, (rcount b (rbyte b a false).2.1 (rbyte b a false).2.2).2.1, true)
          else (.mk 2 0 ((b.drop (rcount b (rbyte b a false).2.1 (rbyte b a false).2.2).2.1).take (rcount b (rbyte b a false).2.1 (rbyte b a false).2.2).1) [], left - 1, (rcount b (rbyte b a false).2.1 (rbyte b a false).2.2).2.1 + (rcount b (rbyte b a false).2.1 (rbyte b a false).2.2).1, false))
      else if (rbyte b a false).1 = 3 then
        (.mk 3 0 [] (ritems b f (rcount b (rbyte b a false).2.1 (rbyte b a false).2.2).1 [] (left - 1) (rcount b (rbyte b a false).2.1 (rbyte b a false).2.2).2.1 (if 4096 < (rcount b (rbyte b a false).2.1 (rbyte b a false).2.2).1 then true else (rcount b (rbyte b a false).2.1 (rbyte b a false).2.2).2.2)).1,
          (ritems b f (rcount b (rbyte b a false).2.1 (rbyte b a false).2.2).1 [] (left - 1) (rcount b (rbyte b a false).2.1 (rbyte b a false).2.2).2.1 (if 4096 < (rcount b (rbyte b a false).2.1 (rbyte b a false).2.2).1 then true else (rcount b (rbyte b a false).2.1 (rbyte b a false).2.2).2.2)).2)
      else (.mk (rbyte b a false).1 0 [] [], left - 1, (rbyte b a false).2.1, true)
def ritems (b : List UInt8) : Nat → Nat → List It → Int → Nat → Bool → List It × Int × Nat × Bool
  | _, 0, acc, left, a, bad => (acc, left, a, bad)
  | f, n + 1, acc, left, a, bad => if bad = true then (acc, left, a, bad) else
      ritems b f n (acc ++ [(ritem b f left a).1]) (ritem b f left a).2.1 (ritem b f left a).2.2.1 (ritem b f left a).2.2.2
end
theorem ritem_zero (b : List UInt8) (left : Int) (a : Nat) : ritem b 0 left a = (.mk 0 0 [] [], left - 1, a, true) := by rw [ritem.eq_def]
theorem ritem_succ (b : List UInt8) (f : Nat) (left : Int) (a : Nat) {k a1 : Nat} {bad1 : Bool} (h1 : rbyte b a false = (k, a1, bad1)) {n a2 : Nat} {bad2 : Bool} (h2 : rcount b a1 bad1 = (n, a2, bad2)) :
    ritem b (f + 1) left a = if left - 1 < 0 then (.mk 0 0 [] [], left - 1, a, true) else
      if k = 1 then (.mk 1 (unzig n) [] [], left - 1, a2, bad2)
      else if k = 2 then (if 4096 < n ∨ bad2 = true ∨ b.length - a2 < n then (.mk 2 0 [] [], left - 1, a2, true) else (.mk 2 0 ((b.drop a2).take n) [], left - 1, a2 + n, false))
      else if k = 3 then (.mk 3 0 [] (ritems b f n [] (left - 1) a2 (if 4096 < n then true else bad2)).1, (ritems b f n [] (left - 1) a2 (if 4096 < n then true else bad2)).2)
      else (.mk k 0 [] [], left - 1, a1, true) := by
  rw [ritem.eq_def]
  simp only [h1, h2]
theorem ritems_zero (b : List UInt8) (f : Nat) (acc : List It) (left : Int) (a : Nat) (bad : Bool) : ritems b f 0 acc left a bad = (acc, left, a, bad) := by rw [ritems.eq_def]
theorem ritems_succ (b : List UInt8) (f n : Nat) (acc : List It) (left : Int) (a : Nat) (bad : Bool) : ritems b f (n + 1) acc left a bad = if bad = true then (acc, left, a, bad) else
      ritems b f n (acc ++ [(ritem b f left a).1]) (ritem b f left a).2.1 (ritem b f left a).2.2.1 (ritem b f left a).2.2.2 := by rw [ritems.eq_def]
theorem ritems_bad (b : List UInt8) (f n : Nat) (acc : List It) (left : Int) (a : Nat) : ritems b f n acc left a true = (acc, left, a, true) := by
  cases n with
  | zero => exact ritems_zero ..
  | succ n => rw [ritems_succ, if_pos rfl]

theorem rbyte_bad (b : List UInt8) (a : Nat) : rbyte b a true = (0, a, true) := rfl
theorem rbyte_ok {b : List UInt8} {a : Nat} {c : UInt8} (h : b[a]? = some c) : rbyte b a false = (c.toNat, a + 1, false) := by
  unfold rbyte; rw [h]; rfl
theorem rbyte_no {b : List UInt8} {a : Nat} (h : b.length ≤ a) : rbyte b a false = (0, a, true) := by
  unfold rbyte; rw [List.getElem?_eq_none h]; rfl
theorem rbyte_rng (b : List UInt8) (a : Nat) (bad : Bool) (h : a ≤ b.length) : (rbyte b a bad).1 < 256 ∧ a ≤ (rbyte b a bad).2.1 ∧ (rbyte b a bad).2.1 ≤ b.length := by
  cases bad with
  | true => rw [rbyte_bad]; exact ⟨by omega, Nat.le_refl _, h⟩
  | false =>
    by_cases ha : a < b.length
    · rw [rbyte_ok (List.getElem?_eq_getElem ha)]
      exact ⟨UInt8.toNat_lt _, Nat.le_succ _, ha⟩
    · rw [rbyte_no (by omega)]; exact ⟨by omega, Nat.le_refl _, h⟩
theorem rcl_bad (b : List UInt8) (k : Nat) (d j n a : Nat) : rcl b k d j n a true = (n, a, true) := by
  cases d <;> simp [rcl]
theorem rcl_succ (b : List UInt8) (k d j n a : Nat) : rcl b k (d + 1) j n a false = rcl b k d (j + 1) ((n * 256 + (rbyte b a false).1) % 18446744073709551616) (rbyte b a false).2.1 (if (j = 0 ∧ (rbyte b a false).1 = 0) ∨ 8 < k then true else (rbyte b a false).2.2) := by
  rw [rcl, if_neg (by simp)]
theorem rcl_rng (b : List UInt8) (k : Nat) : ∀ (d j n a : Nat) (bad : Bool), a ≤ b.length → n < 18446744073709551616 → (rcl b k d j n a bad).1 < 18446744073709551616 ∧ a ≤ (rcl b k d j n a bad).2.1 ∧ (rcl b k d j n a bad).2.1 ≤ b.length
  | 0, j, n, a, bad, h, hn => by rw [rcl]; exact ⟨hn, Nat.le_refl _, h⟩
  | d + 1, j, n, a, true, h, hn => by rw [rcl_bad]; exact ⟨hn, Nat.le_refl _, h⟩
  | d + 1, j, n, a, false, h, hn => by
    rw [rcl_succ]
    obtain ⟨h1, h2, h3⟩ := rbyte_rng b a false h
    obtain ⟨g1, g2, g3⟩ := rcl_rng b k d (j + 1) ((n * 256 + (rbyte b a false).1) % 18446744073709551616) (rbyte b a false).2.1 (if (j = 0 ∧ (rbyte b a false).1 = 0) ∨ 8 < k then true else (rbyte b a false).2.2) h3 (Nat.mod_lt _ (by decide))
    exact ⟨g1, by omega, g3⟩
theorem rcount_rng (b : List UInt8) (a : Nat) (bad : Bool) (h : a ≤ b.length) : (rcount b a bad).1 < 18446744073709551616 ∧ a ≤ (rcount b a bad).2.1 ∧ (rcount b a bad).2.1 ≤ b.length := by
  unfold rcount
  obtain ⟨h1, h2, h3⟩ := rbyte_rng b a bad h
  obtain ⟨g1, g2, g3⟩ := rcl_rng b (rbyte b a bad).1 (rbyte b a bad).1 0 0 (rbyte b a bad).2.1 (rbyte b a bad).2.2 h3 (by decide)
  exact ⟨g1, by omega, g3⟩
/-- Bytes enough, and the first one not 0. -/
theorem rcl_ok (b : List UInt8) (k : Nat) (hk : k ≤ 8) : ∀ (d j n a : Nat), j + d = k → a + d ≤ b.length → n < 256 ^ j → (j = 0 → 0 < d → b[a]? ≠ some 0) →
    rcl b k d j n a false = (((b.drop a).take d).foldl (fun n c => n * 256 + c.toNat) n, a + d, false)
  | 0, j, n, a, h1, h2, h3, h4 => by rw [rcl, List.take_zero]; rfl
  | d + 1, j, n, a, h1, h2, h3, h4 => by
    have ha : a < b.length := by omega
    have hb := rbyte_ok (List.getElem?_eq_getElem ha)
    rw [rcl_succ, hb]
    have hc := (b[a]).toNat_lt
    have hp : (256 : Nat) ^ (j + 1) ≤ 256 ^ 8 := Nat.pow_le_pow_right (by decide) (by omega)
    have h5 : n * 256 + (b[a]).toNat < 256 ^ (j + 1) := by rw [Nat.pow_succ]; omega
    have h0 : ¬ ((j = 0 ∧ (b[a]).toNat = 0) ∨ 8 < k) := by
      rintro (⟨e1, e2⟩ | e)
      · refine h4 e1 (by omega) ?_
        rw [List.getElem?_eq_getElem ha]
        exact congrArg some (UInt8.toNat_inj.1 e2)
      · omega
    dsimp only
    rw [if_neg h0, Nat.mod_eq_of_lt (Nat.lt_of_lt_of_le h5 hp), rcl_ok b k hk d (j + 1) _ (a + 1) (by omega) (by omega) h5 (by omega)]
    rw [List.drop_eq_getElem_cons ha, List.take_succ_cons, List.foldl_cons, show a + 1 + d = a + (d + 1) by omega]
theorem rcl_no (b : List UInt8) (k : Nat) : ∀ (d j n a : Nat) (bad : Bool), b.length < a + d → a ≤ b.length → (rcl b k d j n a bad).2.2 = true
  | d, j, n, a, true, _, _ => by rw [rcl_bad]
  | 0, j, n, a, false, h, h2 => by omega
  | d + 1, j, n, a, false, h, h2 => by
    rw [rcl_succ]
    by_cases ha : a < b.length
    · rw [rbyte_ok (List.getElem?_eq_getElem ha)]
      exact rcl_no b k d (j + 1) _ (a + 1) _ (by omega) (by omega)
    · rw [rbyte_no (by omega)]
      dsimp only
      rw [show (if (j = 0 ∧ 0 = 0) ∨ 8 < k then true else true) = true from ite_self true, rcl_bad]

theorem rcount_cnt (b : List UInt8) (a : Nat) (h : a ≤ b.length) : match cnt (b.drop a) with
    | some (n, r) => ∃ a', a' ≤ b.length ∧ r = b.drop a' ∧ rcount b a false = (n, a', false)
    | none => (rcount b a false).2.2 = true := by
  unfold rcount
  by_cases ha : a < b.length
  · rw [List.drop_eq_getElem_cons ha, rbyte_ok (List.getElem?_eq_getElem ha)]
    simp only [cnt]
    generalize hk : b[a] = kc
    have hl : (b.drop (a + 1)).length = b.length - (a + 1) := List.length_drop
    obtain ⟨k, hkk⟩ : ∃ k, kc.toNat = k := ⟨_, rfl⟩
    rw [hkk]
    by_cases h8 : k > 8 ∨ k > (b.drop (a + 1)).length
    · rw [if_pos h8]
      dsimp only
      rcases h8 with h8 | h8
      · obtain ⟨d, rfl⟩ : ∃ d, k = d + 1 := ⟨k - 1, by omega⟩
        rw [rcl_succ, if_pos (.inr h8), rcl_bad]
      · exact rcl_no b k k 0 0 (a + 1) false (by omega) (by omega)
    · rw [if_neg h8]
      by_cases h0 : 0 < k ∧ (b.drop (a + 1)).head? = some 0
      · rw [if_pos h0]
        dsimp only
        obtain ⟨d, rfl⟩ : ∃ d, k = d + 1 := ⟨k - 1, by omega⟩
        have hz : b[a + 1]? = some 0 := by rw [← h0.2, List.head?_drop]
        rw [rcl_succ, rbyte_ok hz, if_pos (.inl ⟨rfl, rfl⟩), rcl_bad]
      · rw [if_neg h0]
        dsimp only
        refine ⟨a + 1 + k, by omega, by rw [List.drop_drop], ?_⟩
        rw [rcl_ok b k (by omega) k 0 0 (a + 1) (by omega) (by omega) (by decide) (fun _ hd e => h0 ⟨hd, by rw [List.head?_drop]; exact e⟩)]
        rfl
  · rw [List.drop_of_length_le (by omega), rbyte_no (by omega)]
    simp only [cnt, rcl]

theorem ritems_dec {b : List UInt8} {f : Nat} (ih : ∀ (left : Int) (a : Nat), a ≤ b.length → match dec f left (b.drop a) with
      | some (i, l, r) => ∃ a', a' ≤ b.length ∧ r = b.drop a' ∧ ritem b f left a = (i, l, a', false)
      | none => (ritem b f left a).2.2.2 = true) :
    ∀ (n : Nat) (acc : List It) (left : Int) (a : Nat), a ≤ b.length → match decL f n left (b.drop a) with
      | some (l, z, r) => ∃ a', a' ≤ b.length ∧ r = b.drop a' ∧ ritems b f n acc left a false = (acc ++ l, z, a', false)
      | none => (ritems b f n acc left a false).2.2.2 = true
  | 0, acc, left, a, h => by
    rw [decL_zero]
    exact ⟨a, h, rfl, by rw [ritems_zero, List.append_nil]⟩
  | n + 1, acc, left, a, h => by
    rw [decL_succ, ritems_succ, if_neg (by simp)]
    have h1 := ih left a h
    cases hd : dec f left (b.drop a) with
    | none =>
      rw [hd] at h1
      dsimp only at h1 ⊢
      rw [h1, ritems_bad]
    | some p =>
      obtain ⟨i, l, r⟩ := p
      rw [hd] at h1
      dsimp only at h1 ⊢
      obtain ⟨a', ha, hr, he⟩ := h1
      rw [he, hr]
      dsimp only
      have h2 := ritems_dec ih n (acc ++ [i]) l a' ha
      cases hl : decL f n l (b.drop a') with
      | none => rw [hl] at h2; exact h2
      | some q =>
        obtain ⟨l2, z, r2⟩ := q
        rw [hl] at h2
        obtain ⟨a2, ha2, hr2, he2⟩ := h2
        exact ⟨a2, ha2, hr2, by rw [he2, List.append_assoc]; rfl⟩
theorem ritem_dec {b : List UInt8} : ∀ (f : Nat) (left : Int) (a : Nat), a ≤ b.length → match dec f left (b.drop a) with
      | some (i, l, r) => ∃ a', a' ≤ b.length ∧ r = b.drop a' ∧ ritem b f left a = (i, l, a', false)
      | none => (ritem b f left a).2.2.2 = true
  | 0, left, a, h => by rw [dec_zero, ritem_zero]
  | f + 1, left, a, h => by
    by_cases ha : a < b.length
    · have hby := rbyte_ok (List.getElem?_eq_getElem ha)
      have hc := rcount_cnt b (a + 1) (by omega)
      obtain ⟨⟨n, a2, bad2⟩, hq⟩ : ∃ p, rcount b (a + 1) false = p := ⟨_, rfl⟩
      rw [ritem_succ b f left a hby hq, List.drop_eq_getElem_cons ha, dec_cons]
      rw [hq] at hc
      obtain ⟨k, hk⟩ : ∃ k, b[a] = k := ⟨_, rfl⟩
      rw [hk]
      have e1 : k = 1 ↔ k.toNat = 1 := by rw [← UInt8.toNat_inj]; rfl
      have e2 : k = 2 ↔ k.toNat = 2 := by rw [← UInt8.toNat_inj]; rfl
      have e3 : k = 3 ↔ k.toNat = 3 := by rw [← UInt8.toNat_inj]; rfl
      by_cases hl : left - 1 < 0
      · simp only [if_pos hl]
      rw [if_neg hl, if_neg hl]
      by_cases k1 : k = 1
      · rw [if_pos k1, if_pos (e1.1 k1)]
        cases hcn : cnt (b.drop (a + 1)) with
        | none => rw [hcn] at hc; exact hc
        | some p =>
          obtain ⟨m, r⟩ := p
          rw [hcn] at hc
          obtain ⟨a', g1, g2, g3⟩ := hc
          obtain ⟨rfl, rfl, rfl⟩ : n = m ∧ a2 = a' ∧ bad2 = false := by simpa using g3
          exact ⟨a2, g1, g2, rfl⟩
      rw [if_neg k1, if_neg (fun e => k1 (e1.2 e))]
      by_cases k2 : k = 2
      · rw [if_pos k2, if_pos (e2.1 k2)]
        unfold siz
        cases hcn : cnt (b.drop (a + 1)) with
        | none =>
          rw [hcn] at hc
          dsimp only at hc ⊢
          rw [if_pos (.inr (.inl hc))]
        | some p =>
          obtain ⟨m, r⟩ := p
          rw [hcn] at hc
          obtain ⟨a', g1, g2, g3⟩ := hc
          obtain ⟨rfl, rfl, rfl⟩ : n = m ∧ a2 = a' ∧ bad2 = false := by simpa using g3
          dsimp only
          by_cases h4 : n > 4096
          · rw [if_pos h4, if_pos (.inl h4)]
          rw [if_neg h4]
          dsimp only
          rw [g2, List.length_drop]
          by_cases h5 : n > b.length - a2
          · rw [if_pos h5, if_pos (.inr (.inr h5))]
          · rw [if_neg h5, if_neg (by simp; omega)]
            exact ⟨a2 + n, by omega, by rw [List.drop_drop], rfl⟩
      rw [if_neg k2, if_neg (fun e => k2 (e2.2 e))]
      by_cases k3 : k = 3
      · rw [if_pos k3, if_pos (e3.1 k3)]
        unfold siz
        cases hcn : cnt (b.drop (a + 1)) with
        | none =>
          rw [hcn] at hc
          dsimp only at hc ⊢
          rw [hc, ite_self, ritems_bad]
        | some p =>
          obtain ⟨m, r⟩ := p
          rw [hcn] at hc
          obtain ⟨a', g1, g2, g3⟩ := hc
          obtain ⟨rfl, rfl, rfl⟩ : n = m ∧ a2 = a' ∧ bad2 = false := by simpa using g3
          dsimp only
          by_cases h4 : n > 4096
          · rw [if_pos h4, if_pos h4, ritems_bad]
          rw [if_neg h4, if_neg h4]
          dsimp only
          rw [g2]
          have h6 := ritems_dec (fun left a h => ritem_dec f left a h) n [] (left - 1) a2 g1
          cases hl : decL f n (left - 1) (b.drop a2) with
          | none => rw [hl] at h6; exact h6
          | some q =>
            obtain ⟨l2, z, r2⟩ := q
            rw [hl] at h6
            obtain ⟨a3, ha3, hr3, he3⟩ := h6
            exact ⟨a3, ha3, hr3, by rw [he3]; rfl⟩
      rw [if_neg k3, if_neg (fun e => k3 (e3.2 e))]
    · have hby := rbyte_no (b := b) (a := a) (by omega)
      obtain ⟨⟨n, a2, bad2⟩, hq⟩ : ∃ p, rcount b a true = p := ⟨_, rfl⟩
      rw [ritem_succ b f left a hby hq, List.drop_of_length_le (by omega), dec_nil]
      by_cases hl : left - 1 < 0
      · simp only [if_pos hl]
      · rw [if_neg hl, if_neg (by decide), if_neg (by decide), if_neg (by decide)]
end Go.AW.Wir

/- What is encoded is decoded again; plain. -/
set_option linter.unusedVariables false
set_option linter.unusedSimpArgs false
namespace Go.AW.Wir
open Go Go.AW

theorem unzig_zig (n : Int) : unzig (zig n) = n := by
  unfold zig unzig
  split <;> split <;> omega
theorem numB_le : ∀ (f n : Nat), n < 256 ^ f → numB (leF f n).reverse = n
  | 0, n, h => by obtain rfl : n = 0 := by omega
                  rfl
  | f + 1, n, h => by
    by_cases hn : n = 0
    · subst hn; rfl
    · show numB (if n = 0 then [] else UInt8.ofNat n :: leF f (n / 256)).reverse = n
      rw [if_neg hn, List.reverse_cons, numB_snoc, numB_le f (n / 256) (by rw [Nat.pow_succ, Nat.mul_comm] at h; exact Nat.div_lt_of_lt_mul h), UInt8.toNat_ofNat']
      omega
theorem leF_head : ∀ (f n : Nat), n < 256 ^ f → (leF f n).reverse.head? ≠ some 0
  | 0, n, h => by simp [leF]
  | f + 1, n, h => by
    by_cases hn : n = 0
    · subst hn; simp [leF]
    · show (if n = 0 then [] else UInt8.ofNat n :: leF f (n / 256)).reverse.head? ≠ some 0
      rw [if_neg hn, List.reverse_cons]
      have hd : n / 256 < 256 ^ f := by rw [Nat.pow_succ, Nat.mul_comm] at h; exact Nat.div_lt_of_lt_mul h
      have h1 := leF_head f (n / 256) hd
      by_cases h0 : n / 256 = 0
      · have : leF f (n / 256) = [] := by rw [h0]; cases f <;> rfl
        rw [this]
        intro e
        have e2 : UInt8.ofNat n = 0 := by simpa using e
        have e3 := congrArg UInt8.toNat e2
        rw [UInt8.toNat_ofNat'] at e3
        have : (0 : UInt8).toNat = 0 := rfl
        omega
      · cases e : (leF f (n / 256)).reverse with
        | nil =>
          have h2 := numB_le f (n / 256) hd
          rw [e] at h2
          exact absurd h2.symm h0
        | cons c r => rw [e] at h1; simpa using h1
theorem cnt_fwd (n : Nat) (hn : n < 18446744073709551616) (r : List UInt8) : cnt (cntB n ++ r) = some (n, r) := by
  have h8 : n < 256 ^ 8 := hn
  have h1 := numB_le 8 n h8
  have h2 := leF_head 8 n h8
  have h3 := le_len n
  have h4 : (le n).reverse.length = (le n).length := List.length_reverse
  unfold cntB
  change numB (le n).reverse = n at h1
  change (le n).reverse.head? ≠ some 0 at h2
  generalize hL : (le n).reverse = L at h1 h2 h4 ⊢
  rw [← h4] at h3 ⊢
  have hk : (UInt8.ofNat L.length).toNat = L.length := by rw [UInt8.toNat_ofNat']; omega
  show cnt (UInt8.ofNat L.length :: (L ++ r)) = _
  simp only [cnt, hk]
  rw [if_neg (by rw [List.length_append]; omega), if_neg, List.take_left, List.drop_left, h1]
  rintro ⟨g1, g2⟩
  cases L with
  | nil => simp at g1
  | cons c t => exact h2 (by simpa using g2)
theorem len_le_nL : ∀ l : List It, l.length ≤ nL l
  | [] => by rw [nL]; exact Nat.le_refl _
  | i :: r => by have := len_le_nL r; have := nI_pos i; rw [nL, List.length_cons]; omega
theorem zig_lt {n : Int} (h : -9223372036854775808 ≤ n ∧ n ≤ 9223372036854775807) : zig n < 18446744073709551616 := by
  unfold zig
  split <;> omega
mutual
theorem enc_dec : ∀ (i : It) (f : Nat) (left : Int) (r e : List UInt8), inI i → (nI i : Int) ≤ left → left ≤ 4096 → dI i ≤ f → bigI i = false → enV (vI i) = some e → dec f left (e ++ r) = some (i, left - nI i, r)
  | .mk k n s l, f, left, r, e, hin, h1, h2, h3, h4, h5 => by
    rw [inI] at hin
    rw [nI] at h1 ⊢
    rw [dI] at h3
    rw [bigI, Bool.or_eq_false_iff] at h4
    obtain ⟨f, rfl⟩ : ∃ g, f = g + 1 := ⟨f - 1, by omega⟩
    rw [vI] at h5
    split at h5
    · rename_i hc
      obtain ⟨rfl, rfl, rfl⟩ := hc
      rw [enV] at h5
      cases h5
      rw [List.cons_append, dec_cons, if_neg (by omega), if_pos rfl, cnt_fwd _ (zig_lt hin.1.1), nL]
      dsimp only
      rw [unzig_zig]
      rfl
    · split at h5
      · rename_i hc
        obtain ⟨rfl, rfl, rfl⟩ := hc
        rw [enV] at h5
        cases h5
        have hs : s.length ≤ 4096 := by
          have := h4.1
          simp only [Bool.and_eq_false_iff] at this
          rcases this with h | h
          · simp at h
          · have := of_decide_eq_false h; omega
        rw [List.append_assoc, List.cons_append, dec_cons, if_neg (by omega), if_neg (by decide), if_pos rfl]
        unfold siz
        rw [cnt_fwd _ (by omega), nL]
        dsimp only
        rw [if_neg (by omega)]
        dsimp only
        rw [if_neg (by rw [List.length_append]; omega), List.take_left, List.drop_left]
        rfl
      · split at h5
        · rw [enV] at h5; cases h5
        · rename_i hc
          have hk : k = 3 := by simp only [not_or, Classical.not_not] at hc; exact hc.1
          have hn : n = 0 := by simp only [not_or, Classical.not_not] at hc; exact hc.2.1
          have hs : s = [] := by simp only [not_or, Classical.not_not] at hc; exact hc.2.2
          subst hk hn hs
          rw [enV] at h5
          cases ho : enL (vL l) with
          | none => rw [ho] at h5; cases h5
          | some o =>
            rw [ho] at h5
            cases h5
            have hlen := len_le_nL l
            have hl := encL_dec l f (left - 1) r o hin.2 (by omega) (by omega) (by omega) h4.2 ho
            rw [vL_map, List.length_map, List.append_assoc, List.cons_append, dec_cons, if_neg (by omega), if_neg (by decide), if_neg (by decide), if_pos rfl]
            unfold siz
            rw [cnt_fwd _ (by omega)]
            dsimp only
            rw [if_neg (by omega)]
            dsimp only
            rw [hl]
            dsimp only
            congr 3
            omega
theorem encL_dec : ∀ (l : List It) (f : Nat) (left : Int) (r e : List UInt8), inIs l → (nL l : Int) ≤ left → left ≤ 4096 → dL l ≤ f → bigL l = false → enL (vL l) = some e → decL f l.length left (e ++ r) = some (l, left - nL l, r)
  | [], f, left, r, e, hin, h1, h2, h3, h4, h5 => by
    rw [vL, enL] at h5
    cases h5
    rw [List.length_nil, decL_zero, nL]
    simp
  | i :: t, f, left, r, e, hin, h1, h2, h3, h4, h5 => by
    rw [inIs] at hin
    rw [nL] at h1 ⊢
    rw [dL] at h3
    rw [bigL, Bool.or_eq_false_iff] at h4
    rw [vL, enL] at h5
    cases ha : enV (vI i) with
    | none => rw [ha] at h5; cases h5
    | some a =>
      cases hb : enL (vL t) with
      | none => rw [ha, hb] at h5; cases h5
      | some b =>
        rw [ha, hb] at h5
        cases h5
        have g1 := enc_dec i f left (b ++ r) a hin.1 (by omega) h2 (by omega) h4.1 ha
        have g2 := encL_dec t f (left - nI i) r b hin.2 (by omega) (by omega) (by omega) h4.2 hb
        rw [List.length_cons, decL_succ, List.append_assoc, g1]
        dsimp only
        rw [g2]
        dsimp only
        congr 3
        omega
end
/-- What is encoded is decoded again. -/
theorem enc_back {i : It} {b : List UInt8} (hi : inI i) (h : encode i = (b, 0)) : dec 12 4096 b = some (i, (4096 - nI i : Int), []) := by
  have h0 : (encode i).2 = 0 := by rw [h]
  obtain ⟨ho, e, he⟩ := enc_iff.1 h0
  rw [enc_of ho he] at h
  cases h
  have := enc_dec i 12 4096 [] b hi ho.1 (by omega) (by have := ho.2.1; omega) ho.2.2 he
  rw [List.append_nil] at this
  exact this
end Go.AW.Wir

/- The reference's bytes of items; plain. -/
set_option linter.unusedVariables false
set_option linter.unusedSimpArgs false
namespace Go.AW.Wir
open Go Go.AW

theorem leF_get : ∀ (f n j : Nat), j < (leF f n).length → (leF f n)[j]? = some (UInt8.ofNat (n / 256 ^ j))
  | 0, n, j, h => by simp [leF] at h
  | f + 1, n, j, h => by
    by_cases hn : n = 0
    · subst hn; simp [leF] at h
    · have e : leF (f + 1) n = UInt8.ofNat n :: leF f (n / 256) := by show (if n = 0 then [] else _) = _; rw [if_neg hn]
      rw [e] at h ⊢
      cases j with
      | zero => simp
      | succ j =>
        rw [List.getElem?_cons_succ, leF_get f (n / 256) j (by simpa using h), Nat.div_div_eq_div_mul, Nat.pow_succ, Nat.mul_comm 256]
theorem leF_pos {f n : Nat} (hn : n ≠ 0) : leF (f + 1) n = UInt8.ofNat n :: leF f (n / 256) := by
  show (if n = 0 then [] else _) = _
  rw [if_neg hn]
theorem leF_nil (f : Nat) : leF f 0 = [] := by cases f <;> rfl
theorem enL_some (v : Val) (r : List Val) : (enL (v :: r)).isSome = ((enV v).isSome && (enL r).isSome) := by
  rw [enL]
  cases enV v <;> cases enL r <;> rfl
/-- Has it its form? -/
def formB (i : It) : Bool := (enV (vI i)).isSome
def formL (l : List It) : Bool := (enL (vL l)).isSome
theorem formL_cons (i : It) (r : List It) : formL (i :: r) = (formB i && formL r) := by unfold formL formB; rw [vL, enL_some]
theorem formL_nil : formL [] = true := by unfold formL; rw [vL, enL]; rfl
theorem formB_num (n : Int) (s : List UInt8) (l : List It) : formB (.mk 1 n s l) = decide (s = [] ∧ l = []) := by
  unfold formB
  rw [vI]
  by_cases h : s = [] ∧ l = []
  · rw [if_pos ⟨rfl, h⟩, decide_eq_true h, enV]; rfl
  · rw [if_neg (fun e => h e.2), if_neg (by simp), if_pos (by simp), decide_eq_false h, enV]; rfl
theorem formB_txt (n : Int) (s : List UInt8) (l : List It) : formB (.mk 2 n s l) = decide (n = 0 ∧ l = []) := by
  unfold formB
  rw [vI, if_neg (by simp)]
  by_cases h : n = 0 ∧ l = []
  · rw [if_pos ⟨rfl, h⟩, decide_eq_true h, enV]; rfl
  · rw [if_neg (fun e => h e.2), if_pos (by simp), decide_eq_false h, enV]; rfl
theorem formB_lst (n : Int) (s : List UInt8) (l : List It) : formB (.mk 3 n s l) = (formL l && decide (n = 0 ∧ s = [])) := by
  unfold formB formL
  rw [vI, if_neg (by simp), if_neg (by simp)]
  by_cases h : n = 0 ∧ s = []
  · rw [if_neg (by simp [h.1, h.2]), decide_eq_true h, enV, Bool.and_true]
    cases enL (vL l) <;> rfl
  · rw [if_pos (by simp only [not_and] at h; by_cases hn : n = 0
                   · exact .inr (.inr (h hn))
                   · exact .inr (.inl hn)), decide_eq_false h, enV, Bool.and_false]; rfl
theorem formB_no {k : Int} (n : Int) (s : List UInt8) (l : List It) (h1 : k ≠ 1) (h2 : k ≠ 2) (h3 : k ≠ 3) : formB (.mk k n s l) = false := by
  unfold formB
  rw [vI, if_neg (fun e => h1 e.1), if_neg (fun e => h2 e.1), if_pos (.inl h3), enV]
  rfl
theorem bigL_drop {l : List It} {j : Nat} (hj : j < l.length) : bigL (l.drop j) = (bigI l[j] || bigL (l.drop (j + 1))) := by
  rw [List.drop_eq_getElem_cons hj, bigL]
theorem formL_drop {l : List It} {j : Nat} (hj : j < l.length) : formL (l.drop j) = (formB l[j] && formL (l.drop (j + 1))) := by
  rw [List.drop_eq_getElem_cons hj, formL_cons]
mutual
theorem itN_is : ∀ (i : It) (most deep : Int), (nI i : Int) ≤ most → deep + dI i ≤ 13 → itN i most deep = ((nI i : Int), deep + dI i - 1)
  | .mk _ _ _ l, most, deep, h1, h2 => by
    rw [nI] at h1 ⊢
    rw [dI] at h2 ⊢
    rw [itN_mk, itNL_is l most deep 1 deep (by omega) (by omega)]
    cases l with
    | nil => rw [nL, dL]; simp
    | cons i r =>
      rw [if_neg (List.cons_ne_nil _ _)]
      have : 1 ≤ dL (i :: r) := by rw [dL]; have := dI_pos i; omega
      rw [if_pos (by omega)]
      congr 1 <;> omega
theorem itNL_is : ∀ (l : List It) (most deep n d : Int), n + nL l ≤ most → deep + dL l ≤ 12 → itNL l most deep n d = (n + nL l, if l = [] then d else if d < deep + dL l then deep + dL l else d)
  | [], most, deep, n, d, h1, h2 => by rw [itNL_nil, nL]; simp
  | i :: r, most, deep, n, d, h1, h2 => by
    rw [nL] at h1
    rw [dL] at h2
    have hp := dI_pos i
    rw [itNL_cons, if_pos ⟨by omega, by omega⟩, itN_is i (most - n) (deep + 1) (by omega) (by omega), itNL_is r most deep (n + nI i) _ (by omega) (by omega), nL, dL, if_neg (List.cons_ne_nil _ _)]
    congr 1
    · omega
    · cases r with
      | nil => rw [if_pos rfl, dL]; split <;> split <;> omega
      | cons a b =>
        rw [if_neg (List.cons_ne_nil _ _)]
        generalize dL (a :: b) = q
        split <;> split <;> split <;> omega
end
/-- What the reference tells of an item's bytes. -/
theorem encode_r (i : It) : encode i = if 4096 < nI i ∨ 12 < dI i ∨ bigI i = true then ([], 3) else if formB i = false then ([], 4) else ((encode i).1, 0) := by
  by_cases ho : okc i 1 4096
  · obtain ⟨h1, h2, h3⟩ := ho
    rw [if_neg (by rw [h3]; simp; omega)]
    unfold formB
    cases h : enV (vI i) with
    | none => rw [enc_bad ⟨h1, h2, h3⟩ h]; rfl
    | some b => rw [enc_of ⟨h1, h2, h3⟩ h]; rfl
  · rw [enc_not ho, if_pos]
    unfold okc at ho
    by_cases h1 : 4096 < nI i
    · exact .inl h1
    · by_cases h2 : 12 < dI i
      · exact .inr (.inl h2)
      · cases h3 : bigI i with
        | true => exact .inr (.inr rfl)
        | false => exact absurd ⟨by omega, by omega, h3⟩ ho
end Go.AW.Wir
