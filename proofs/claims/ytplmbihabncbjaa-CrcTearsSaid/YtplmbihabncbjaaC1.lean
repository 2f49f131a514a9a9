/- The checksum's functions, walked. -/
import Derived.Test.YtplmbihabncbjaaAw26
import Derived.Test.YtplmbihabncbjaaProg
set_option linter.unusedVariables false
set_option linter.unusedSimpArgs false
namespace Go.AW.Crc
open Go Go.AW Go.Proofs

def bit (x : BitVec 32) : BitVec 32 := x >>> 1 ^^^ 3988292384#32 * (x &&& 1#32)
def bits (x : BitVec 32) : Nat → BitVec 32
  | 0 => x
  | n + 1 => bit (bits x n)
def tab (i : Nat) : BitVec 32 := bits (BitVec.ofNat 32 i) 8
def rowAt : Nat → List T
  | 0 => List.replicate 256 (.lit (.int .u32 0))
  | n + 1 => (rowAt n).set n (u32 (tab n))
theorem rowAt_len (n : Nat) : (rowAt n).length = 256 := by
  induction n with
  | zero => simp only [rowAt, List.length_replicate]
  | succ n ih => simp only [rowAt, List.length_set, ih]
theorem rowAt_lt (x n : Nat) : ∀ c ∈ rowAt n, lt0 x c := by
  induction n with
  | zero => intro c hc; simp only [rowAt] at hc; rw [List.eq_of_mem_replicate hc]; trivial
  | succ n ih =>
    intro c hc
    rcases List.mem_or_eq_of_mem_set hc with h | rfl
    · exact ih c h
    · trivial
theorem rows_lt (x n : Nat) (sz : Nat) : blkLt x (.own sz [rowAt n]) := by
  intro row hr c hc
  obtain rfl := List.mem_singleton.1 hr
  exact rowAt_lt x n c hc
theorem row_cell (n : Nat) : (rowAt n).all cellOk = true := by
  induction n with
  | zero => simp only [rowAt, List.all_replicate]; decide
  | succ n ih =>
    rw [List.all_eq_true] at ih ⊢
    intro c hc
    rcases List.mem_or_eq_of_mem_set hc with h | rfl
    · exact ih c h
    · rfl
/-- The table. -/
def tabL : List T := rowAt 256
theorem tabL_eq : tabL = rowAt 256 := rfl
theorem tabL_len : tabL.length = 256 := rowAt_len 256
theorem tabL_cell : tabL.all cellOk = true := row_cell 256
theorem row_bv (n : Nat) : (rowAt n).all bvOk = true := by
  induction n with
  | zero => simp only [rowAt, List.all_replicate]; decide
  | succ n ih =>
    rw [List.all_eq_true] at ih ⊢
    intro c hc
    rcases List.mem_or_eq_of_mem_set hc with h | rfl
    · exact ih c h
    · rfl
theorem row_untok (n : Nat) : (rowAt n).map untok = rowAt n := by
  induction n with
  | zero => simp only [rowAt, List.map_replicate]; rfl
  | succ n ih => simp only [rowAt, List.map_set, ih]; rfl
theorem row_get (n i : Nat) (h : i < n) (h2 : i < 256) : (rowAt n)[i]? = some (u32 (tab i)) := by
  induction n with
  | zero => omega
  | succ n ih =>
    simp only [rowAt, List.getElem?_set, rowAt_len]
    by_cases he : n = i
    · subst he; simp [h2]
    · rw [if_neg he]; exact ih (by omega)
theorem tabL_bv : bvA (.agg tabL) = true := row_bv 256
theorem tabL_untok : tabL.map untok = tabL := row_untok 256
theorem tabL_get (i : Nat) (h : i < 256) : tabL[i]? = some (u32 (tab i)) := row_get 256 i h h
theorem tabL_lt (x : Nat) : blkLt x (.own 256 [tabL]) := rows_lt x 256 256
attribute [irreducible] tabL
theorem bit_int (x : BitVec 32) : bitsI .xor .u32 ((x.toNat : Int).fdiv (2 ^ min (Int.toNat 1) IntKind.u32.bits)) (IntKind.u32.wrap (3988292384 * bitsI .and .u32 x.toNat 1)) = ((bit x).toNat : Int) :=
  (congr (congrArg (bitsI .xor .u32) (shr_u .u32 rfl x 1 (by decide))) ((congrArg (fun z => IntKind.u32.wrap (3988292384 * z)) (and32 x 1#32)).trans (mul32 3988292384#32 _))).trans (xor32 _ _)
set_option maxRecDepth 10000
theorem table_law : FCv Try.prog 15 [] (.agg tabL) := by
  refine FCv_of_awp (fn := Try.f15) (c := bodyC Try.f15) Try.func15 rfl (by decide) [] ?_
  conv => whnf
  refine loop_intro (fun i : Fin 257 => ⟨[(0, .ptr 0 0 0), (1, .ptr 1 0 0), (4, i64 i)], [(0, .own 256 [rowAt 0]), (1, .own 256 [rowAt i])], 23, 2, []⟩) (fun i => 256 - i) 0 ?_ ?_
  · refine Wk.intro [] rfl (fun p hp => by cases hp) ⟨.same rfl (by exact rfl), .same rfl (by exact rfl), .same rfl trivial, trivial⟩
      ⟨⟨rfl, .inl ⟨rfl, rows_lt _ _ _⟩⟩, ⟨rfl, .inl ⟨rfl, rows_lt _ _ _⟩⟩, trivial⟩
  intro i
  conv => whnf
  refine br_intro (fun h => ?_) (fun h => ?_)
  · have hi : i.val < 256 := by have := of_decide_eq_true h; omega
    conv => whnf
    refine loop_intro (fun k : Fin 9 => ⟨[(0, .ptr 0 0 0), (1, .ptr 1 0 0), (4, i64 i), (2, i64 i), (3, u32 (bits (BitVec.ofNat 32 i) k)), (9, i64 k)], [(0, .own 256 [rowAt 0]), (1, .own 256 [rowAt i])], 23, 2, []⟩) (fun k => 8 - k) 0 ?_ ?_
    · refine Wk.intro [] rfl (fun p hp => by cases hp) ⟨.same rfl (by exact rfl), .same rfl (by exact rfl), .same rfl trivial, .same rfl trivial, .same ?_ trivial, .same rfl trivial, trivial⟩
        ⟨⟨rfl, .inl ⟨rfl, rows_lt _ _ _⟩⟩, ⟨rfl, .inl ⟨rfl, rows_lt _ _ _⟩⟩, trivial⟩
      exact congrArg (fun z => T.lit (.int .u32 z)) (toU32 _ (by omega))
    intro k
    conv => whnf
    refine br_intro (fun h2 => ?_) (fun h2 => ?_)
    · have hk : k.val < 8 := by have := of_decide_eq_true h2; omega
      conv => whnf
      refine ⟨by decide, ?_⟩
      conv => whnf
      refine Nx.intro ⟨k + 1, by omega⟩ (by simp only; omega) ?_
      refine Wk.intro [] rfl (fun p hp => by cases hp) ⟨.same rfl (by exact rfl), .same rfl (by exact rfl), .same rfl trivial, .same rfl trivial, .same ?_ trivial, .same ?_ trivial, trivial⟩
        ⟨⟨rfl, .inl ⟨rfl, rows_lt _ _ _⟩⟩, ⟨rfl, .inl ⟨rfl, rows_lt _ _ _⟩⟩, trivial⟩
      · exact congrArg (fun z => T.lit (.int .u32 z)) (bit_int _)
      · exact congrArg (fun z => T.lit (.int .i64 z)) (wrap_i64 _ (by omega) (by omega))
    · have hk : k.val = 8 := by have := of_decide_eq_false h2; omega
      conv => whnf
      refine ⟨⟨by omega, by omega⟩, ?_⟩
      conv => whnf
      refine chk_intro (by rw [rowAt_len]; exact ble_of (by show 0 + i.val * 1 + 1 ≤ 256; omega)) ?_
      conv => whnf
      refine Nx.intro ⟨i + 1, by omega⟩ (by simp only; omega) ?_
      refine Wk.intro [] rfl (fun p hp => by cases hp) ⟨.same rfl (by exact rfl), .same rfl (by exact rfl), .same ?_ trivial, trivial⟩
        ⟨⟨rfl, .inl ⟨rfl, rows_lt _ _ _⟩⟩, ⟨rfl, .inl ⟨?_, rows_lt _ _ _⟩⟩, trivial⟩
      · exact congrArg (fun z => T.lit (.int .i64 z)) (wrap_i64 _ (by omega) (by omega))
      · refine congrArg (fun z => some (Blk.own 256 [z])) ?_
        refine (spl_set _ _ _ (by rw [rowAt_len]; show 0 + i.val * 1 < 256; omega)).trans ?_
        show (rowAt i).set (0 + i.val * 1) (u32 (bits (BitVec.ofNat 32 i) k)) = rowAt (i.val + 1)
        rw [hk, Nat.zero_add, Nat.mul_one]
        rfl
  · have hi : i.val = 256 := by have := of_decide_eq_false h; omega
    conv => whnf
    rw [show rowAt i = tabL by rw [tabL_eq, hi]]
    refine chk_intro (by rw [tabL_len]; rfl) ?_
    conv => whnf
    have e : List.take (Try.prog.types[34]).size (List.drop 0 tabL) = tabL := by
      rw [List.drop_zero]; exact List.take_of_length_le (by rw [tabL_len]; exact Nat.le_refl _)
    rw [e]
    refine chk_intro (by show Nat.beq tabL.length _ = true; rw [tabL_len]; rfl) (chk_intro tabL_cell ?_)
    conv => whnf
    have e2 : spl (rowAt 0) 0 (cellsT (T.agg tabL)) = tabL := by
      show tabL ++ (rowAt 0).drop tabL.length = tabL
      rw [List.drop_of_length_le (by rw [rowAt_len, tabL_len]; exact Nat.le_refl _), List.append_nil]
    rw [e2]
    refine chk_intro (by rw [tabL_len]; rfl) ?_
    conv => whnf
    rw [e]
    refine chk_intro tabL_bv (.inl ?_)
    show T.agg (tabL.map untok) = _
    rw [tabL_untok]

/-- One byte of the sum. -/
def stepB (s : BitVec 32) (c : UInt8) : BitVec 32 := tab ((s.setWidth 8 ^^^ c.toBitVec).toNat) ^^^ s >>> 8
def run (s : BitVec 32) (l : List UInt8) : BitVec 32 := l.foldl stepB s
def more (s : BitVec 32) (l : List UInt8) : BitVec 32 := ~~~ run (~~~ s) l
theorem run_take (s : BitVec 32) (l : List UInt8) (k : Nat) (c : UInt8) (h : l[k]? = some c) : run s (l.take (k + 1)) = stepB (run s (l.take k)) c := by
  rw [List.take_add_one, h, run, List.foldl_append]
  rfl

theorem step_int (s : BitVec 32) (c : UInt8) : bitsI .xor .u32 (tab ((s.setWidth 8 ^^^ c.toBitVec).toNat)).toNat ((s.toNat : Int).fdiv (2 ^ min (Int.toNat 8) IntKind.u32.bits)) = ((stepB s c).toNat : Int) :=
  (congrArg (bitsI .xor .u32 _) (shr_u .u32 rfl s 8 (by decide))).trans (xor32 _ _)
theorem ix_int (s : BitVec 32) (c : UInt8) : bitsI .xor .u8 (IntKind.u8.wrap s.toNat) c.toNat = ((s.setWidth 8 ^^^ c.toBitVec).toNat : Int) :=
  (congrArg (fun z => bitsI .xor .u8 z c.toNat) (toU8 s)).trans (xor8 (s.setWidth 8) c.toBitVec)

/-- What is known of the table. -/
structure Tab (L : List T) : Prop where
  len : L.length = 256
  cell : L.all cellOk = true
  get : ∀ i, i < 256 → L[i]? = some (u32 (tab i))
  lt : ∀ x, blkLt x (.own 256 [L])
  law : FCv Try.prog 15 [] (.agg L)
theorem theTab : ∃ L, Tab L := ⟨tabL, tabL_len, tabL_cell, tabL_get, tabL_lt, table_law⟩

theorem more_law (s : BitVec 32) (l : List UInt8) (hl : l.length ≤ reachBytes) : FCv Try.prog 11 [u32 s, .sl none 1 (bytesR l)] (u32 (more s l)) := by
  obtain ⟨L, hL⟩ := theTab
  have hrb : reachBytes = 140737488351232 := rfl
  refine FCv_of_awp (fn := Try.f11) (c := bodyC Try.f11) Try.func11 rfl (of_decide_eq_true rfl) [] ?_
  conv => whnf
  refine ⟨_, hL.law, ?_⟩
  conv => whnf
  refine chk_intro (by show Nat.beq L.length _ = true; rw [hL.len]; rfl) (chk_intro hL.cell ?_)
  conv => whnf
  have hlen : (bytesR l).length = l.length := List.length_map _
  refine loop_intro (fun i : Fin (l.length + 1) => ⟨[(5, .ptr 0 0 0), (6, u32 (run (~~~ s) (l.take i))), (12, .sl none 1 (bytesR l)), (13, i64 l.length), (14, i64 i)], [(0, .own 256 [L])], 30, 1, []⟩) (fun i => l.length - i) 0 ?_ ?_
  · refine Wk.intro [] rfl (fun p hp => by cases hp) ⟨.same rfl (by exact rfl), .same ?_ trivial, .same rfl trivial, .same ?_ trivial, .same rfl trivial, trivial⟩
      ⟨⟨rfl, .inl ⟨?_, hL.lt _⟩⟩, trivial⟩
    · exact congrArg (fun z => T.lit (.int .u32 z)) (not32 _)
    · exact congrArg (fun z : Nat => T.lit (.int .i64 z)) hlen
    · exact congrArg (fun z => some (Blk.own 256 [z])) (spl_all (hL.len.trans (by rfl)))
  intro i
  conv => whnf
  refine br_intro (fun h => ?_) (fun h => ?_)
  · have hi : i.val < l.length := by have := of_decide_eq_true h; omega
    obtain ⟨c, hc⟩ : ∃ c, l[i.val]? = some c := ⟨_, List.getElem?_eq_getElem hi⟩
    conv => whnf
    refine ⟨by omega, nthK_intro (bytes_get hc) ?_⟩
    conv => whnf
    refine ⟨⟨?_, ?_⟩, ?_⟩
    · rw [ix_int]; omega
    · rw [ix_int]; have := (((run (~~~ s) (l.take i)).setWidth 8) ^^^ c.toBitVec).isLt; omega
    rw [ix_int]
    conv => whnf
    refine nthK_intro (x := u32 (tab ((run (~~~ s) (l.take i)).setWidth 8 ^^^ c.toBitVec).toNat)) ?_ ?_
    · have := (((run (~~~ s) (l.take i)).setWidth 8) ^^^ c.toBitVec).isLt
      refine Eq.trans ?_ (hL.get _ this)
      congr 1
      show 0 + _ * 1 = _
      omega
    conv => whnf
    refine ⟨by decide, ?_⟩
    conv => whnf
    refine Nx.intro ⟨i + 1, by omega⟩ (by simp only; omega) ?_
    refine Wk.intro [] rfl (fun p hp => by cases hp) ⟨.same rfl (by exact rfl), .same ?_ trivial, .same rfl trivial, .same rfl trivial, .same ?_ trivial, trivial⟩
      ⟨⟨rfl, .inl ⟨rfl, hL.lt _⟩⟩, trivial⟩
    · refine congrArg (fun z => T.lit (.int .u32 z)) ?_
      rw [run_take _ _ _ _ hc]
      exact step_int _ _
    · exact congrArg (fun z => T.lit (.int .i64 z)) (wrap_i64 _ (by omega) (by omega))
  · have hi : i.val = l.length := by have := of_decide_eq_false h; omega
    conv => whnf
    refine .inl ?_
    refine congrArg (fun z => T.lit (.int .u32 z)) ?_
    rw [hi, List.take_length]
    exact not32 _
end Go.AW.Crc
