/- Contracts, used at other words of the same arguments. -/
import Derived.Test.YtciboampiaainaaDoorAw25
set_option linter.unusedVariables false
set_option linter.unusedSimpArgs false
namespace Go.AW
open Go

def leL : List T → List T → Prop
  | [], [] => True
  | a :: r, b :: s => le1 a b ∧ leL r s
  | _, _ => False

theorem leL_len : ∀ {a b : List T}, leL a b → a.length = b.length
  | [], [], _ => rfl
  | _ :: r, _ :: s, h => by simp [leL_len h.2]
  | [], _ :: _, h => h.elim
  | _ :: _, [], h => h.elim

theorem leL_get : ∀ {a b : List T} (h : leL a b) (i : Nat) (x y : T), a[i]? = some x → b[i]? = some y → le1 x y
  | _ :: _, _ :: _, h, 0, x, y, hx, hy => by simp at hx hy; subst hx hy; exact h.1
  | _ :: r, _ :: s, h, i + 1, x, y, hx, hy => leL_get h.2 i x y (by simpa using hx) (by simpa using hy)
  | [], [], h, i, x, y, hx, hy => by simp at hx

theorem FCv.weak {P : Program} {f : FuncId} {ts ts' : List T} {o : T} (h : FCv P f ts' o) (hl : leL ts ts') : FCv P f ts o := by
  intro X w args hX hG hlen hargs
  have e := leL_len hl
  refine h X w args hX hG (by omega) ?_
  intro i t v ht hv
  have hi : i < ts.length := by have := (List.getElem?_eq_some_iff.1 ht).1; omega
  exact le1_ok (hargs i _ v (List.getElem?_eq_getElem hi) hv) (leL_get hl i _ t (List.getElem?_eq_getElem hi) ht)

/-- Nothing, for no bytes. -/
theorem le1.nil (sz : Nat) : le1 (.lit (.slice none 0 0)) (.sl none sz []) := .inr (.inl ⟨rfl, sz, rfl⟩)
theorem le1.same (t : T) : le1 t t := .inl rfl

/-- Bytes that a string bears are told by their list. -/
theorem str_data (l : List UInt8) : (⟨l.toArray⟩ : ByteArray).data.toList = l := rfl
theorem bytesR_len (l : List UInt8) : (bytesR l).length = l.length := List.length_map _
theorem bytesR_take (l : List UInt8) (n : Nat) : (bytesR l).take n = bytesR (l.take n) := (List.map_take ..).symm
theorem bytesR_drop (l : List UInt8) (n : Nat) : (bytesR l).drop n = bytesR (l.drop n) := (List.map_drop ..).symm
theorem bytesR_append (a b : List UInt8) : bytesR a ++ bytesR b = bytesR (a ++ b) := (List.map_append ..).symm
theorem bytes_get {l : List UInt8} {i : Nat} {c : UInt8} (h : l[i]? = some c) : (bytesR l)[i]? = some [.lit (.int .u8 c.toNat)] := by
  simp only [bytesR, List.getElem?_map, h, Option.map_some]
theorem bytesR_inj {a b : List UInt8} (h : bytesR a = bytesR b) : a = b := by
  induction a generalizing b with
  | nil => cases b <;> simp_all [bytesR]
  | cons x r ih =>
    cases b with
    | nil => simp [bytesR] at h
    | cons y s =>
      simp only [bytesR, List.map_cons, List.cons.injEq] at h
      obtain ⟨⟨h1, _⟩, h2⟩ := h
      injection h1 with h1
      injection h1 with _ h1
      rw [ih h2, UInt8.toNat_inj.1 (Int.ofNat.inj h1)]
theorem ble_of {a b : Nat} (h : a ≤ b) : Nat.ble a b = true := Nat.ble_eq.mpr h
theorem beq_of {a b : Nat} (h : a = b) : Nat.beq a b = true := by subst h; exact Nat.beq_refl a
theorem blt_of {a b : Nat} (h : a < b) : Nat.blt a b = true := Nat.ble_eq.mpr h
theorem spl_all {r xs : List T} (h : xs.length = r.length) : spl r 0 xs = xs := by
  have e : spl r 0 xs = xs ++ r.drop xs.length := by cases r <;> rfl
  rw [e, List.drop_of_length_le (by omega), List.append_nil]
def bodyC (f : Func) : Code := match f.body with | some c => c | none => .skip


section
variable {H : Type} {enc : TypeId × Value → H} {P : Program} {w : World} {t : TypeId}
theorem Rd.u32 (hu : P.underlying t = some (.int .u32)) : Rd enc P w t (fun n : BitVec 32 => [Go.AW.u32 n]) (fun _ => True) := by
  refine (Rd.int hu).conv ?_
  intro n ⟨h1, h2⟩
  have e1 : IntKind.u32.min = 0 := rfl
  have e2 : IntKind.u32.max = 4294967295 := by decide
  rw [e1] at h1
  rw [e2] at h2
  refine ⟨BitVec.ofNat 32 n.toNat, trivial, ?_⟩
  have : ((BitVec.ofNat 32 n.toNat).toNat : Int) = n := by rw [BitVec.toNat_ofNat]; omega
  show [T.lit (.int .u32 ((BitVec.ofNat 32 n.toNat).toNat : Int))] = _
  rw [this]
theorem Rd.i64 (hu : P.underlying t = some (.int .i64)) : Rd enc P w t (fun n : Int => [Go.AW.i64 n]) (fun n => -9223372036854775808 ≤ n ∧ n ≤ 9223372036854775807) := by
  refine (Rd.int hu).conv ?_
  intro n ⟨h1, h2⟩
  have e1 : IntKind.i64.min = -9223372036854775808 := by decide
  have e2 : IntKind.i64.max = 9223372036854775807 := by decide
  rw [e1] at h1
  rw [e2] at h2
  exact ⟨n, ⟨h1, h2⟩, rfl⟩
end

theorem mxI_zero (n : Int) : mxI n 0 = (n.toNat : Int) := by unfold mxI; split <;> omega
theorem bytesR_zeros (k : Nat) : bytesR (List.replicate k 0) = List.replicate k [.lit (.int .u8 0)] := by
  simp only [bytesR, List.map_replicate]; rfl
theorem mnI_min (a b : Nat) : mnI (a : Int) (b : Int) = ((min a b : Nat) : Int) := by unfold mnI; split <;> omega

theorem bytesR_bvN (l : List UInt8) : ∀ row ∈ bytesR l, ∀ c ∈ row, bvN c = true := by
  intro row hr c hc
  obtain ⟨b, _, rfl⟩ := List.mem_map.1 hr
  obtain rfl := List.mem_singleton.1 hc
  rfl
theorem bytesR_blt (x : Nat) (l : List UInt8) : blkLt x (.own 1 (bytesR l)) := by
  intro row hr c hc
  obtain ⟨b, _, rfl⟩ := List.mem_map.1 hr
  obtain rfl := List.mem_singleton.1 hc
  trivial
theorem bytesR_setB (l : List UInt8) (i : Nat) (v : UInt8) : (bytesR l).set i [.lit (.int .u8 v.toNat)] = bytesR (l.set i v) := by
  simp only [bytesR, List.map_set]

end Go.AW
