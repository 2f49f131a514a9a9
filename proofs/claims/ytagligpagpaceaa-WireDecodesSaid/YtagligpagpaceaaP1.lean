import Derived.Test.YtagligpagpaceaaAw27
/- Items and their bytes; plain. -/
set_option linter.unusedVariables false
set_option linter.unusedSimpArgs false
namespace Go.AW.Wir
open Go Go.AW

def str (l : List UInt8) : T := .lit (.string ⟨l.toArray⟩)
abbrev u64 (n : Nat) : T := .lit (.int .u64 (n : Int))

inductive It where
  | mk (k n : Int) (s : List UInt8) (l : List It)
def It.k : It → Int | .mk k _ _ _ => k
def It.n : It → Int | .mk _ n _ _ => n
def It.s : It → List UInt8 | .mk _ _ s _ => s
def It.l : It → List It | .mk _ _ _ l => l
theorem It.eta (i : It) : It.mk i.k i.n i.s i.l = i := by cases i; rfl

mutual
def itCx : It → List T
  | .mk k n s l => [i64 k, i64 n, str s, .sl none 4 (itRx l)]
def itRx : List It → List (List T)
  | [] => []
  | i :: r => itCx i :: itRx r
end
theorem itRx_map : ∀ l : List It, itRx l = l.map itCx
  | [] => rfl
  | i :: r => by rw [itRx, itRx_map r, List.map_cons]
/-- The cells of an item. -/
def itC (i : It) : List T := [i64 i.k, i64 i.n, str i.s, .sl none 4 (i.l.map itCx)]
theorem itCx_eq : itCx = itC := by
  funext i
  cases i with
  | mk k n s l => rw [itCx, itRx_map]; rfl
def itR (l : List It) : List (List T) := l.map itC
theorem itC_eq (i : It) : itC i = [i64 i.k, i64 i.n, str i.s, .sl none 4 (itR i.l)] := by unfold itC itR; rw [itCx_eq]
def itT (i : It) : T := .agg (itC i)
theorem itR_len (l : List It) : (itR l).length = l.length := List.length_map _
theorem itR_append (a b : List It) : itR a ++ itR b = itR (a ++ b) := (List.map_append ..).symm
theorem itR_get {l : List It} {j : Nat} {i : It} (h : l[j]? = some i) : (itR l)[j]? = some (itC i) := by simp [itR, h]

/-- A number of some bytes. -/
def numB (l : List UInt8) : Nat := l.foldl (fun n c => n * 256 + c.toNat) 0
theorem numB_snoc (l : List UInt8) (c : UInt8) : numB (l ++ [c]) = numB l * 256 + c.toNat := by simp [numB, List.foldl_append]
theorem numB_acc (l : List UInt8) : ∀ a : Nat, l.foldl (fun n c => n * 256 + c.toNat) a < (a + 1) * 256 ^ l.length := by
  induction l with
  | nil => intro a; simp
  | cons c r ih =>
    intro a
    have h := ih (a * 256 + c.toNat)
    have hc := c.toNat_lt
    rw [List.foldl_cons, List.length_cons, Nat.pow_succ]
    refine Nat.lt_of_lt_of_le h ?_
    have h2 : a * 256 + c.toNat + 1 ≤ (a + 1) * 256 := by omega
    calc (a * 256 + c.toNat + 1) * 256 ^ r.length ≤ ((a + 1) * 256) * 256 ^ r.length := Nat.mul_le_mul_right _ h2
      _ = (a + 1) * (256 ^ r.length * 256) := by rw [Nat.mul_assoc, Nat.mul_comm 256]
theorem numB_lt (l : List UInt8) : numB l < 256 ^ l.length := by
  have := numB_acc l 0
  simpa [numB] using this

/-- A count, and what stands behind. -/
def cnt (b : List UInt8) : Option (Nat × List UInt8) :=
  match b with
  | [] => none
  | k :: r => if k.toNat > 8 ∨ k.toNat > r.length then none else if 0 < k.toNat ∧ r.head? = some 0 then none else some (numB (r.take k.toNat), r.drop k.toNat)
def siz (most : Nat) (b : List UInt8) : Option (Nat × List UInt8) :=
  match cnt b with
  | none => none
  | some (n, r) => if n > most then none else some (n, r)
def unzig (n : Nat) : Int := if n % 2 = 0 then (n / 2 : Nat) else -((n / 2 : Nat) : Int) - 1

mutual
/-- The item that some bytes begin with: what is left of how many there may be, and the bytes behind. -/
def dec : Nat → Int → List UInt8 → Option (It × Int × List UInt8)
  | 0, _, _ => none
  | f + 1, left, b => if left - 1 < 0 then none else match b with
    | [] => none
    | k :: r => if k = 1 then (match cnt r with | none => none | some (n, r) => some (.mk 1 (unzig n) [] [], left - 1, r))
      else if k = 2 then (match siz 4096 r with | none => none | some (n, r) => if n > r.length then none else some (.mk 2 0 (r.take n) [], left - 1, r.drop n))
      else if k = 3 then (match siz 4096 r with | none => none | some (n, r) => match decL f n (left - 1) r with | none => none | some (l, left, r) => some (.mk 3 0 [] l, left, r))
      else none
def decL : Nat → Nat → Int → List UInt8 → Option (List It × Int × List UInt8)
  | _, 0, left, b => some ([], left, b)
  | f, n + 1, left, b => match dec f left b with
    | none => none
    | some (i, left, b) => match decL f n left b with
      | none => none
      | some (l, left, b) => some (i :: l, left, b)
end
theorem dec_zero (left : Int) (b : List UInt8) : dec 0 left b = none := by rw [dec.eq_def]
theorem dec_nil (f : Nat) (left : Int) : dec (f + 1) left [] = none := by rw [dec.eq_def]; dsimp only; split <;> rfl
theorem dec_cons (f : Nat) (left : Int) (k : UInt8) (r : List UInt8) : dec (f + 1) left (k :: r) = if left - 1 < 0 then none else
      if k = 1 then (match cnt r with | none => none | some (n, r) => some (.mk 1 (unzig n) [] [], left - 1, r))
      else if k = 2 then (match siz 4096 r with | none => none | some (n, r) => if n > r.length then none else some (.mk 2 0 (r.take n) [], left - 1, r.drop n))
      else if k = 3 then (match siz 4096 r with | none => none | some (n, r) => match decL f n (left - 1) r with | none => none | some (l, left, r) => some (.mk 3 0 [] l, left, r))
      else none := by rw [dec.eq_def]
theorem decL_zero (f : Nat) (left : Int) (b : List UInt8) : decL f 0 left b = some ([], left, b) := by rw [decL.eq_def]
theorem decL_succ (f n : Nat) (left : Int) (b : List UInt8) : decL f (n + 1) left b = match dec f left b with
    | none => none
    | some (i, left, b) => match decL f n left b with
      | none => none
      | some (l, left, b) => some (i :: l, left, b) := by rw [decL.eq_def]
end Go.AW.Wir
