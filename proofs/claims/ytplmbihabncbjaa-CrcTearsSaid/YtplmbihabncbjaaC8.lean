/- The laws of the checksum that draw, on. -/
import Derived.Test.YtplmbihabncbjaaC7
set_option linter.unusedVariables false
set_option linter.unusedSimpArgs false
namespace Go.AW.Crc
open Go Go.AW Go.Proofs
set_option maxRecDepth 10000
set_option pp.maxSteps 900

def x3 : List UInt8 → List UInt8 → List UInt8 → List UInt8
  | x :: a, y :: b, z :: c => (x ^^^ y ^^^ z) :: x3 a b c
  | _, _, _ => []
theorem stepB_x3 (r s t : BitVec 32) (x y z : UInt8) : stepB (r ^^^ s ^^^ t) (x ^^^ y ^^^ z) = stepB r x ^^^ stepB s y ^^^ stepB t z := by
  simp only [stepB_bits, ← bits_xor]
  congr 1
  apply BitVec.eq_of_getLsbD_eq
  intro i hi
  simp only [BitVec.getLsbD_xor, BitVec.getLsbD_setWidth, UInt8.toBitVec_xor, hi, decide_true, Bool.true_and]
  cases r.getLsbD i <;> cases s.getLsbD i <;> cases t.getLsbD i <;> cases x.toBitVec.getLsbD i <;> cases y.toBitVec.getLsbD i <;> cases z.toBitVec.getLsbD i <;> rfl
theorem run_x3 : ∀ (a b c : List UInt8) (r s t : BitVec 32), a.length = b.length → a.length = c.length → run (r ^^^ s ^^^ t) (x3 a b c) = run r a ^^^ run s b ^^^ run t c
  | [], [], [], r, s, t, _, _ => rfl
  | x :: a, y :: b, z :: c, r, s, t, h1, h2 => by
    show run (stepB (r ^^^ s ^^^ t) (x ^^^ y ^^^ z)) (x3 a b c) = run (stepB r x) a ^^^ run (stepB s y) b ^^^ run (stepB t z) c
    rw [stepB_x3]
    exact run_x3 a b c _ _ _ (by simpa using h1) (by simpa using h2)
theorem more_x3 (a b c : List UInt8) (h1 : a.length = b.length) (h2 : a.length = c.length) : more 0 (x3 a b c) = more 0 a ^^^ more 0 b ^^^ more 0 c := by
  unfold more
  have := run_x3 a b c (~~~0#32) (~~~0#32) (~~~0#32) h1 h2
  rw [show (~~~0#32) ^^^ (~~~0#32) ^^^ (~~~0#32) = ~~~0#32 from by decide] at this
  rw [show (~~~(0 : BitVec 32)) = ~~~0#32 from rfl, this]
  generalize run _ a = r
  generalize run _ b = s
  generalize run _ c = t
  apply BitVec.eq_of_getLsbD_eq
  intro i hi
  simp only [BitVec.getLsbD_xor, BitVec.getLsbD_not, hi, decide_true, Bool.true_and]
  cases r.getLsbD i <;> cases s.getLsbD i <;> cases t.getLsbD i <;> rfl
theorem x3_len : ∀ (a b c : List UInt8), a.length = b.length → a.length = c.length → (x3 a b c).length = a.length
  | [], [], [], _, _ => rfl
  | x :: a, y :: b, z :: c, h1, h2 => by simp only [x3, List.length_cons]; rw [x3_len a b c (by simpa using h1) (by simpa using h2)]
theorem x3_get {x y z : UInt8} (a : List UInt8) : ∀ (b c : List UInt8) (i : Nat), a[i]? = some x → b[i]? = some y → c[i]? = some z → (x3 a b c)[i]? = some (x ^^^ y ^^^ z) := by
  induction a with
  | nil => intro b c i h; simp at h
  | cons p a ih =>
    intro b c i h1 h2 h3
    cases b with
    | nil => simp at h2
    | cons q b =>
      cases c with
      | nil => simp at h3
      | cons r c =>
        cases i with
        | zero => simp at h1 h2 h3; subst h1 h2 h3; rfl
        | succ i => simp at h1 h2 h3; exact ih b c i h1 h2 h3

theorem bytesR_lt (x : Nat) (l : List UInt8) : blkLt x (.own 1 (bytesR l)) := by
  intro row hr c hc
  obtain ⟨b, _, rfl⟩ := List.mem_map.1 hr
  obtain rfl := List.mem_singleton.1 hc
  trivial
/-- A row that is filled up to a place. -/
def fill (d : List UInt8) (n i : Nat) : List UInt8 := d.take i ++ List.replicate (n - i) 0
theorem fill_zero (d : List UInt8) (n : Nat) : fill d n 0 = List.replicate n 0 := by rw [fill, List.take_zero, List.nil_append, Nat.sub_zero]
theorem fill_end {d : List UInt8} {n : Nat} (h : d.length = n) : fill d n n = d := by
  rw [fill, Nat.sub_self, List.replicate_zero, List.append_nil, List.take_of_length_le (by omega)]
theorem fill_len {d : List UInt8} {n i : Nat} (h : d.length = n) (hi : i ≤ n) : (fill d n i).length = n := by
  rw [fill, List.length_append, List.length_take, List.length_replicate]; omega
theorem fill_step {d : List UInt8} {n i : Nat} (h : d.length = n) {v : UInt8} (hv : d[i]? = some v) : (fill d n i).set i v = fill d n (i + 1) := by
  have hi : i < n := by rw [← h]; exact (List.getElem?_eq_some_iff.1 hv).1
  unfold fill
  rw [List.take_add_one, hv, show n - i = (n - (i + 1)) + 1 by omega, List.replicate_succ]
  rw [List.set_append_right _ _ (by rw [List.length_take]; omega)]
  rw [List.length_take, show i - min i d.length = 0 by omega, List.set_cons_zero]
  simp
theorem bytesR_set (l : List UInt8) (i : Nat) (v : UInt8) : (bytesR l).set i [.lit (.int .u8 v.toNat)] = bytesR (l.set i v) := by
  simp only [bytesR, List.map_set]

theorem CrcLinear_law (a b c : List UInt8) (ha : a.length ≤ reachBytes) (hb : b.length ≤ reachBytes) (hc : c.length ≤ reachBytes) :
    FCv Try.prog 5 [.sl none 1 (bytesR a), .sl none 1 (bytesR b), .sl none 1 (bytesR c)] (tb true) := by
  have hrb : reachBytes = 140737488351232 := rfl
  refine FCv_of_awp (fn := Try.f5) (c := bodyC Try.f5) Try.func5 rfl (of_decide_eq_true rfl) [20] ?_
  conv => whnf
  refine ⟨_, awake_law, ?_⟩
  conv => whnf
  obtain ⟨n, hn⟩ : ∃ n, n = min (min (min a.length b.length) c.length) 65536 := ⟨_, rfl⟩
  have e : mnI (mnI (mnI ((bytesR a).length : Int) ((bytesR b).length : Int)) ((bytesR c).length : Int)) 65536 = (n : Int) := by
    rw [bytesR_len, bytesR_len, bytesR_len, mnI_min, mnI_min, hn]
    exact mnI_min _ 65536
  rw [e]
  have n1 : (Try.prog.types[5]).bytes = 1 := rfl
  refine ⟨⟨by omega, by omega, by omega, by rw [n1]; omega⟩, ?_⟩
  conv => whnf
  have la : (a.take n).length = n := by rw [List.length_take]; omega
  have lb : (b.take n).length = n := by rw [List.length_take]; omega
  have lc : (c.take n).length = n := by rw [List.length_take]; omega
  obtain ⟨d, hd⟩ : ∃ d, d = x3 (a.take n) (b.take n) (c.take n) := ⟨_, rfl⟩
  have ld : d.length = n := by rw [hd, x3_len _ _ _ (by omega) (by omega), la]
  refine loop_intro (fun i : Fin (n + 1) => ⟨[(0, .sl none 1 (bytesR a)), (1, .sl none 1 (bytesR b)), (2, .sl none 1 (bytesR c)), (7, i64 n), (8, .sref 0 0 n), (22, i64 n), (23, i64 i)], [(0, .own 1 (bytesR (fill d n i)))], 61, 1, []⟩) (fun i => n - i) 0 ?_ ?_
  · refine Wk.intro [] rfl (fun p hp => by cases hp) ⟨.same rfl trivial, .same rfl trivial, .same rfl trivial, .same rfl trivial, .same rfl (by exact rfl), .same rfl trivial, .same rfl trivial, trivial⟩
      ⟨⟨rfl, .inl ⟨?_, ?_⟩⟩, trivial⟩
    · refine congrArg (fun z => some (Blk.own 1 z)) ?_
      refine Eq.trans ?_ (congrArg bytesR (fill_zero d n).symm)
      rw [bytesR_zeros]
      rfl
    · exact bytesR_lt _ _
  intro i
  conv => whnf
  refine br_intro (fun h => ?_) (fun h => ?_)
  · rw [h]
    have hi : i.val < n := by have := of_decide_eq_true h; omega
    obtain ⟨x, hx⟩ : ∃ x, a[i.val]? = some x := ⟨_, List.getElem?_eq_getElem (by omega)⟩
    obtain ⟨y, hy⟩ : ∃ y, b[i.val]? = some y := ⟨_, List.getElem?_eq_getElem (by omega)⟩
    obtain ⟨z, hz⟩ : ∃ z, c[i.val]? = some z := ⟨_, List.getElem?_eq_getElem (by omega)⟩
    conv => whnf
    refine ⟨by omega, nthK_intro (bytes_get hx) ?_⟩
    conv => whnf
    refine ⟨by omega, nthK_intro (bytes_get hy) ?_⟩
    conv => whnf
    refine ⟨by omega, nthK_intro (bytes_get hz) ?_⟩
    conv => whnf
    refine ⟨⟨by omega, by omega⟩, ?_⟩
    conv => whnf
    have hv : d[i.val]? = some (x ^^^ y ^^^ z) := by
      rw [hd]
      refine x3_get _ _ _ _ ?_ ?_ ?_
      · rw [List.getElem?_take, if_pos hi]; exact hx
      · rw [List.getElem?_take, if_pos hi]; exact hy
      · rw [List.getElem?_take, if_pos hi]; exact hz
    obtain ⟨u, hu⟩ : ∃ u, (fill d n i)[i.val]? = some u := ⟨_, List.getElem?_eq_getElem (by rw [fill_len ld (by omega)]; exact hi)⟩
    have ei : 0 + ((i.val : Int)).toNat = i.val := by omega
    refine nthK_intro (x := [.lit (.int .u8 u.toNat)]) ?_ ?_
    · rw [ei]; exact bytes_get hu
    conv => whnf
    refine Nx.intro ⟨i + 1, by omega⟩ (by simp only; omega) ?_
    refine Wk.intro [] rfl (fun p hp => by cases hp) ⟨.same rfl trivial, .same rfl trivial, .same rfl trivial, .same rfl trivial, .same rfl (by exact rfl), .same rfl trivial, .same ?_ trivial, trivial⟩
      ⟨⟨rfl, .inl ⟨?_, bytesR_lt _ _⟩⟩, trivial⟩
    · exact congrArg (fun z => T.lit (.int .i64 z)) (wrap_i64 _ (by omega) (by omega))
    · refine congrArg (fun z => some (Blk.own 1 z)) ?_
      rw [ei]
      have e1 : bitsI .xor .u8 (bitsI .xor .u8 x.toNat y.toNat) z.toNat = (((x ^^^ y ^^^ z).toNat : Nat) : Int) :=
        (congrArg (fun q => bitsI .xor .u8 q z.toNat) (xor8 x.toBitVec y.toBitVec)).trans (xor8 (x.toBitVec ^^^ y.toBitVec) z.toBitVec)
      rw [e1]
      show (bytesR (fill d n i)).set i [T.lit (Value.int IntKind.u8 ((x ^^^ y ^^^ z).toNat : Nat))] = bytesR (fill d n (i.val + 1))
      rw [bytesR_set, fill_step ld hv]
  · rw [h]
    have hi : i.val = n := by have := of_decide_eq_false h; omega
    conv => whnf
    have cut : ∀ (l : List UInt8), l.length ≤ reachBytes → FCv Try.prog 10 [.sl none 1 (List.take ((n : Int).toNat - 0) (List.drop 0 (bytesR l)))] (u32 (more 0 (l.take n))) := by
      intro l hl
      have := sum_law (l.take n) (by rw [List.length_take]; omega)
      rw [← bytesR_take] at this
      rw [List.drop_zero]
      exact this
    refine ⟨by omega, ?_⟩
    conv => whnf
    refine ⟨⟨by omega, by rw [bytesR_len]; omega⟩, ?_⟩
    conv => whnf
    refine ⟨_, cut a ha, ?_⟩
    conv => whnf
    refine ⟨by omega, ?_⟩
    conv => whnf
    refine ⟨⟨by omega, by rw [bytesR_len]; omega⟩, ?_⟩
    conv => whnf
    refine ⟨_, cut b hb, ?_⟩
    conv => whnf
    refine ⟨by omega, ?_⟩
    conv => whnf
    refine ⟨⟨by omega, by rw [bytesR_len]; omega⟩, ?_⟩
    conv => whnf
    refine ⟨_, cut c hc, ?_⟩
    conv => whnf
    have whole : List.take n (List.drop 0 (bytesR (fill d n i))) = bytesR d := by
      rw [List.drop_zero, hi, fill_end ld, List.take_of_length_le (by rw [bytesR_len]; omega)]
    have last : FCv Try.prog 10 [.sl none 1 (List.take n (List.drop 0 (bytesR (fill d n i))))] (u32 (more 0 d)) := by
      rw [whole]
      exact sum_law d (by omega)
    refine ⟨⟨by rw [bytesR_len, fill_len ld (by omega)]; omega, ?_⟩, ?_⟩
    · intro row hr c hc
      rw [whole] at hr
      obtain ⟨b, _, rfl⟩ := List.mem_map.1 hr
      obtain rfl := List.mem_singleton.1 hc
      rfl
    conv => whnf
    refine ⟨_, last, ?_⟩
    conv => whnf
    refine .inl (congrArg tb ?_)
    rw [xor32, xor32, hd, more_x3 _ _ _ (by omega) (by omega)]
    exact beq_self_eq_true _
end Go.AW.Crc
