import Derived.Test.YtmobiphgmdigjaaAw1
import GoSem.Instr.Lookup
/- The abstract machine: states, operations, and what must hold for them to go on. -/
set_option linter.unusedVariables false
set_option linter.unusedSimpArgs false
namespace Go.AW
open Go

structure S where
  t : List (Nat × T)
  m : Mem
  n : Nat
  x : Nat
  r : List Nat := []

/-- A check of what is known. -/
def chk (b : Bool) (p : Prop) : Prop := match b with | true => p | false => False
theorem chk_intro {b : Bool} {p : Prop} (h : b = true) (hp : p) : chk b p := by subst h; exact hp
theorem chk_elim {b : Bool} {p : Prop} (h : chk b p) : b = true ∧ p := by cases b <;> simp_all [chk]

def nth {α : Type} : List α → Nat → Option α
  | [], _ => none
  | a :: _, 0 => some a
  | _ :: l, n + 1 => nth l n
theorem nth_eq {α : Type} (l : List α) (i : Nat) : nth l i = l[i]? := by
  induction l generalizing i with
  | nil => simp [nth]
  | cons a l ih => cases i <;> simp [nth, ih]
def nthK {α : Type} (l : List α) (i : Nat) (K : α → Prop) : Prop := match nth l i with | some x => K x | none => False
theorem nthK_intro {α : Type} {l : List α} {i : Nat} {K : α → Prop} {x : α} (h : l[i]? = some x) (hK : K x) : nthK l i K := by simp only [nthK, nth_eq, h]; exact hK
theorem nthK_elim {α : Type} {l : List α} {i : Nat} {K : α → Prop} (h : nthK l i K) : ∃ x, l[i]? = some x ∧ K x := by
  unfold nthK at h; rw [nth_eq] at h
  cases e : l[i]? with
  | none => rw [e] at h; exact h.elim
  | some x => rw [e] at h; exact ⟨x, rfl, h⟩

def look : List (Nat × T) → Nat → T
  | [], _ => .dead
  | (k, v) :: r, i => bif Nat.beq k i then v else look r i
def putT : List (Nat × T) → Nat → T → List (Nat × T)
  | [], i, x => [(i, x)]
  | (k, v) :: r, i, x => bif Nat.beq k i then (i, x) :: r else (k, v) :: putT r i x
def putF : List (Nat × T) → Nat → T → (List (Nat × T) → Prop) → Prop
  | [], i, x, K => K [(i, x)]
  | (k, v) :: r, i, x, K => bif Nat.beq k i then K ((i, x) :: r) else putF r i x fun r' => K ((k, v) :: r')
def memF : Mem → Nat → Blk → (Mem → Prop) → Prop
  | [], i, x, K => K [(i, x)]
  | (k, v) :: r, i, x, K => bif Nat.beq k i then K ((i, x) :: r) else memF r i x fun r' => K ((k, v) :: r')

theorem putF_eq (l : List (Nat × T)) (i : Nat) (x : T) (K : List (Nat × T) → Prop) : putF l i x K = K (putT l i x) := by
  induction l generalizing K with
  | nil => rfl
  | cons p r ih =>
    obtain ⟨k, v⟩ := p
    simp only [putF, putT]
    cases Nat.beq k i
    · simp [ih]
    · simp
theorem memF_eq (l : Mem) (i : Nat) (x : Blk) (K : Mem → Prop) : memF l i x K = K (l.put i x) := by
  induction l generalizing K with
  | nil => rfl
  | cons p r ih =>
    obtain ⟨k, v⟩ := p
    simp only [memF, Mem.put]
    cases Nat.beq k i
    · simp [ih]
    · simp

def ofV : Value → T
  | .agg cs => .agg (cs.toList.map .lit)
  | v => .lit v
def ev (l : List (Nat × T)) : Operand → T
  | .tmp t => look l t
  | .const v => ofV v
  | .func f => .clo f []
  | .global _ => .dead

/-- A way that a truth value decides. -/
def br (b : Bool) (p q : Prop) : Prop := match b with | true => p | false => q
theorem br_intro {b : Bool} {p q : Prop} (hp : b = true → p) (hq : b = false → q) : br b p q := by cases b <;> simp_all [br]
theorem br_true {b : Bool} {p q : Prop} (h : b = true) (hp : p) : br b p q := by subst h; exact hp
theorem br_false {b : Bool} {p q : Prop} (h : b = false) (hq : q) : br b p q := by subst h; exact hq

def forceT (t : T) (K : T → Prop) : Prop :=
  match t with
  | .dead => K .dead
  | .lit v => K (.lit v)
  | .sl a b c => K (.sl a b c)
  | .agg a => K (.agg a)
  | .tup a => K (.tup a)
  | .clo a b => K (.clo a b)
  | .ifc a b => K (.ifc a b)
  | .ptr a b c => K (.ptr a b c)
  | .sref a b c => K (.sref a b c)
  | .vp a b => K (.vp a b)
  | .itr a => K (.itr a)
  | .mref a => K (.mref a)
theorem forceT_eq (t : T) (K : T → Prop) : forceT t K = K t := by cases t <;> rfl

def untok : T → T
  | .lit v => .lit v
  | .sl _ sz rows => .sl none sz rows
  | .ifc t x => .ifc t x
  | _ => .dead

def sameK : IntKind → IntKind → Bool
  | .i8, .i8 | .i16, .i16 | .i32, .i32 | .i64, .i64 | .u8, .u8 | .u16, .u16 | .u32, .u32 | .u64, .u64 => true
  | _, _ => false
theorem sameK_eq {a b : IntKind} (h : sameK a b = true) : a = b := by cases a <;> cases b <;> first | rfl | (exact absurd h (by decide))

def bitsI (op : BinOp) (k : IntKind) (x y : Int) : Int :=
  match op with
  | .and => k.wrap (BitVec.ofInt k.bits x &&& BitVec.ofInt k.bits y).toNat
  | .or => k.wrap (BitVec.ofInt k.bits x ||| BitVec.ofInt k.bits y).toNat
  | .xor => k.wrap (BitVec.ofInt k.bits x ^^^ BitVec.ofInt k.bits y).toNat
  | _ => k.wrap (BitVec.ofInt k.bits x &&& ~~~(BitVec.ofInt k.bits y)).toNat

def intA (op : BinOp) (k : IntKind) (a b : Int) (K : T → Prop) : Prop :=
  match op with
  | .add => K (.lit (.int k (k.wrap (a + b))))
  | .sub => K (.lit (.int k (k.wrap (a - b))))
  | .mul => K (.lit (.int k (k.wrap (a * b))))
  | .quo => b ≠ 0 ∧ K (.lit (.int k (k.wrap (a.tdiv b))))
  | .rem => b ≠ 0 ∧ K (.lit (.int k (a.tmod b)))
  | .and => K (.lit (.int k (bitsI .and k a b)))
  | .or => K (.lit (.int k (bitsI .or k a b)))
  | .xor => K (.lit (.int k (bitsI .xor k a b)))
  | .andNot => K (.lit (.int k (bitsI .andNot k a b)))
  | .eql => K (.lit (.bool (a == b)))
  | .neq => K (.lit (.bool (a != b)))
  | .lss => K (.lit (.bool (decide (a < b))))
  | .leq => K (.lit (.bool (decide (a ≤ b))))
  | .gtr => K (.lit (.bool (decide (a > b))))
  | .geq => K (.lit (.bool (decide (a ≥ b))))
  | _ => False

def strA (op : BinOp) (a b : ByteArray) (K : T → Prop) : Prop :=
  match op with
  | .add => a.size + b.size ≤ 9223372036854775807 ∧ K (.lit (.string (a ++ b)))
  | .eql => K (.lit (.bool (a.toList == b.toList)))
  | .neq => K (.lit (.bool (!(a.toList == b.toList))))
  | .lss => K (.lit (.bool (Op.bytesLess a.toList b.toList)))
  | .leq => K (.lit (.bool (Op.bytesLess a.toList b.toList || a.toList == b.toList)))
  | .gtr => K (.lit (.bool (!(Op.bytesLess a.toList b.toList || a.toList == b.toList))))
  | .geq => K (.lit (.bool (!(Op.bytesLess a.toList b.toList))))
  | _ => False

/-- An operation on values that are known whole: whatever the model says of it. -/
def pureA (P : Program) (f : Sem Value) (K : T → Prop) : Prop := ∃ v, (∀ w, f.run P w = .ok v w) ∧ K (.lit v)

def isSh : BinOp → Bool
  | .shl | .shr => true
  | _ => false

def binA (P : Program) (op : BinOp) (ty : TypeId) (ox oy : Operand) (x y : T) (K : T → Prop) : Prop :=
  match x, y with
  | .lit (.int k a), .lit (.int k' b) =>
    match op with
    | .shl => 0 ≤ b ∧ K (.lit (.int k (k.wrap (a * 2 ^ (min b.toNat k.bits)))))
    | .shr => 0 ≤ b ∧ K (.lit (.int k (a.fdiv (2 ^ (min b.toNat k.bits)))))
    | op => chk (sameK k k') (intA op k a b K)
  | .lit (.string a), .lit (.string b) => chk (!(isSh op)) (strA op a b K)
  | .lit (.bool a), .lit (.bool b) =>
    match op, P.underlying ty with
    | .eql, some .bool => K (.lit (.bool (a == b)))
    | .neq, some .bool => K (.lit (.bool (!(a == b))))
    | _, _ => False
  | .agg xs, .agg ys => ∃ vs us : List Value, xs = vs.map .lit ∧ ys = us.map .lit ∧
      pureA P (do eqGuard op ty ox oy (.agg vs.toArray) (.agg us.toArray); binOp op ty (.agg vs.toArray) (.agg us.toArray)) K
  | .ptr _ _ _, .lit (.pointer none) =>
    match op, P.underlying ty with
    | .eql, some (.pointer _) => K (.lit (.bool false))
    | .neq, some (.pointer _) => K (.lit (.bool true))
    | _, _ => False
  | .lit (.pointer none), .lit (.pointer none) =>
    match op, P.underlying ty with
    | .eql, some (.pointer _) => K (.lit (.bool true))
    | .neq, some (.pointer _) => K (.lit (.bool false))
    | _, _ => False
  | _, _ => False

def unA (op : UnOp) (x : T) (K : T → Prop) : Prop :=
  match op, x with
  | .neg, .lit (.int k n) => K (.lit (.int k (k.wrap (0 - n))))
  | .xor, .lit (.int k n) => K (.lit (.int k (bitsI .xor k (if k.signed then -1 else k.max) n)))
  | .not, .lit (.bool b) => K (.lit (.bool (!b)))
  | _, _ => False

def pickA (c a b : T) (K : T → Prop) : Prop :=
  match c with
  | .lit (.bool c) => br c (forceT a K) (forceT b K)
  | _ => False

/-- The cells of a value. -/
def cellsT : T → List T
  | .agg cs => cs
  | t => [t]

/-- May it be stored into a cell? -/
def cellOk : T → Bool
  | .lit v => v.oneCell'
  | .sl _ _ _ | .clo _ _ | .ifc _ _ | .ptr _ _ _ | .sref _ _ _ | .vp _ _ | .itr _ | .mref _ => true
  | _ => false

/-- By value, whole: nothing in it is an id. -/
def bvOk : T → Bool
  | .lit v => v.oneCell'
  | .sl _ _ _ | .ifc _ _ => true
  | _ => false

def isAggD : TypeDesc → Bool
  | .struct _ | .array _ _ => true
  | _ => false

def spl : List T → Nat → List T → List T
  | r, 0, cs => cs ++ r.drop cs.length
  | [], _ + 1, _ => []
  | x :: r, n + 1, cs => x :: spl r n cs

def loadA (P : Program) (m : Mem) (t : TypeId) (a : T) (K : T → Prop) : Prop :=
  match P.underlying t, P.info? t with
  | some d, some i =>
    match a with
    | .ptr id row off =>
      match m.get id with
      | some (.own sz rows) => nthK rows row fun r =>
        match isAggD d with
        | true => chk (Nat.ble (off + i.size) r.length) (K (.agg ((r.drop off).take i.size)))
        | false => nthK r off fun x => forceT x K
      | _ => False
    | .vp r off =>
      match isAggD d with
      | true => chk (Nat.ble (off + i.size) r.length) (K (.agg (((r.drop off).take i.size).map untok)))
      | false => nthK r off fun x => forceT (untok x) K
    | _ => False
  | _, _ => False

def storeA (P : Program) (m : Mem) (t : TypeId) (a x : T) (K : Mem → Prop) : Prop :=
  match P.info? t with
  | some i =>
    match a with
    | .ptr id row off =>
      match m.get id with
      | some (.own sz rows) => nthK rows row fun r => chk (Nat.ble (off + i.size) r.length) <| chk (Nat.beq (cellsT x).length i.size) <| chk ((cellsT x).all cellOk) <|
          memF m id (.own sz (rows.set row (spl r off (cellsT x)))) K
      | _ => False
    | _ => False
  | _ => False

def zeroOf (i : TypeInfo) (K : List T → Prop) : Prop :=
  match i.zero with
  | some z => K (z.cells.toList.map .lit)
  | none => False

/-- A fresh variable. -/
def allocA (P : Program) (m : Mem) (id : Nat) (t : TypeId) (K : T → Mem → Prop) : Prop :=
  match P.info? t with
  | some i => match i.zero with
    | some z => chk (Nat.beq z.cells.size i.size) <| memF m id (.own i.size [z.cells.toList.map .lit]) (K (.ptr id 0 0))
    | none => False
  | none => False

def boxA (P : Program) (m : Mem) (id : Nat) (t : TypeId) (x : T) (K : T → Mem → Prop) : Prop :=
  match P.info? t with
  | some i => chk (Nat.beq (cellsT x).length i.size) <| chk ((cellsT x).all cellOk) <| memF m id (.own i.size [cellsT x]) (K (.ptr id 0 0))
  | none => False

def fieldAddrA (P : Program) (t : TypeId) (a : T) (f : Nat) (K : T → Prop) : Prop :=
  match P.underlying t with
  | some (.struct fs) => match fs[f]? with
    | some fd => match P.info? fd.type with
      | some i => match Nat.beq i.size 0 with
        | false => match a with
          | .ptr id row off => K (.ptr id row (off + fd.offset))
          | .vp r off => K (.vp r (off + fd.offset))
          | _ => False
        | true => False
      | none => False
    | none => False
  | _ => False

def partA (P : Program) (t : TypeId) (cs : List T) (off : Nat) (K : T → Prop) : Prop :=
  match P.underlying t, P.info? t with
  | some d, some i =>
    match isAggD d with
    | true => chk (Nat.ble (off + i.size) cs.length) (K (.agg ((cs.drop off).take i.size)))
    | false => nthK cs off fun x => forceT x K
  | _, _ => False

def fieldA (P : Program) (t : TypeId) (a : T) (f : Nat) (K : T → Prop) : Prop :=
  match P.underlying t with
  | some (.struct fs) => match fs[f]? with
    | some fd => match a with
      | .agg cs => partA P fd.type cs fd.offset K
      | _ => False
    | none => False
  | _ => False

def indexAddrA (P : Program) (m : Mem) (t : TypeId) (a ix : T) (K : T → Prop) : Prop :=
  match ix with
  | .lit (.int k i) =>
    match P.underlying t with
    | some (.array len e) => match P.info? e with
      | some ei => (0 ≤ i ∧ i < len) ∧ match a with
        | .ptr id row off => K (.ptr id row (off + i.toNat * ei.size))
        | .vp r off => K (.vp r (off + i.toNat * ei.size))
        | _ => False
      | none => False
    | some (.slice e) => match P.info? e with
      | some ei => match a with
        | .sl _ sz rows => chk (Nat.beq sz ei.size) (0 ≤ i ∧ nthK rows i.toNat fun r => K (.vp r 0))
        | .sref id lo len => match m.get id with
          | some (.own sz rows) => chk (Nat.beq sz ei.size) ((0 ≤ i ∧ i < len) ∧ K (.ptr id (lo + i.toNat) 0))
          | _ => False
        | _ => False
      | none => False
    | _ => False
  | _ => False

def indexA (P : Program) (t : TypeId) (a ix : T) (K : T → Prop) : Prop :=
  match ix with
  | .lit (.int k i) =>
    match P.underlying t, a with
    | some (.array len e), .agg cs => match P.info? e with
      | some ei => (0 ≤ i ∧ i < len) ∧ partA P e cs (i.toNat * ei.size) K
      | none => False
    | some .string, .lit (.string s) => 0 ≤ i ∧ ∃ b : UInt8, s.data.toList[i.toNat]? = some b ∧ K (.lit (.int .u8 b.toNat))
    | _, _ => False
  | _ => False

def extractA (a : T) (i : Nat) (K : T → Prop) : Prop :=
  match a with
  | .tup vs => nthK vs i fun x => forceT x K
  | _ => False

def bytesR (l : List UInt8) : List (List T) := l.map fun b => [.lit (.int .u8 b.toNat)]
def runesR (l : List Int) : List (List T) := l.map fun c => [.lit (.int .i32 c)]

/-- The rows of what is read as a slice. -/
def rowsOf (m : Mem) (a : T) (K : Nat → List (List T) → Prop) : Prop :=
  match a with
  | .sl _ sz rows => K sz rows
  | .sref id lo len => match m.get id with
    | some (.own sz rows) => lo + len ≤ rows.length ∧ K sz ((rows.drop lo).take len)
    | _ => False
  | _ => False

def isNilSl : Value → Bool
  | .slice none 0 0 => true
  | _ => false

def lenA (P : Program) (t : TypeId) (a : T) (K : T → Prop) : Prop :=
  match P.underlying t with
  | some .string => match a with
    | .lit (.string s) => K (.lit (.int .i64 s.size))
    | _ => False
  | some (.slice _) => match a with
    | .sl _ _ rows => K (.lit (.int .i64 rows.length))
    | .sref _ _ len => K (.lit (.int .i64 len))
    | .lit v => match isNilSl v with
      | true => K (.lit (.int .i64 0))
      | false => False
    | _ => False
  | some (.array n _) => K (.lit (.int .i64 n))
  | _ => False

/-- What is appended: its rows. -/
def moreA (P : Program) (m : Mem) (e : TypeId) (i : TypeInfo) (tx : TypeId) (x : T) (K : List (List T) → Prop) : Prop :=
  match P.underlying tx with
  | some (.slice _) => match x with
    | .sl _ sz rows => chk (Nat.beq sz i.size) (K rows)
    | .lit v => match isNilSl v with
      | true => K []
      | false => False
    | _ => False
  | some .string => match x with
    | .lit (.string s) => chk (Nat.beq 1 i.size) (K (bytesR s.data.toList))
    | _ => False
  | _ => False

/-- What is appended: rows, or as many zero rows as a number says. -/
def moreZ (P : Program) (m : Mem) (e : TypeId) (i : TypeInfo) (z : Value) (tx : TypeId) (x : T) (K : List (List T) → Prop) : Prop :=
  match P.underlying tx with
  | some (.int _) => match x with
    | .lit (.int _ n) => chk (z.cells.toList.all Value.oneCell') <| (0 ≤ n ∧ n ≤ 9223372036854775807 ∧ n * i.bytes ≤ 281474976710656) ∧ K (List.replicate n.toNat (z.cells.toList.map .lit))
    | _ => False
  | _ => moreA P m e i tx x K

def delF : Mem → Nat → (Mem → Prop) → Prop
  | [], _, K => K []
  | (k, c) :: r, i, K => bif Nat.beq k i then delF r i K else delF r i fun r' => K ((k, c) :: r')
theorem delF_eq (l : Mem) (i : Nat) (K : Mem → Prop) : delF l i K = K (l.del i) := by
  induction l generalizing K with
  | nil => rfl
  | cons p r ih =>
    obtain ⟨k, v⟩ := p
    simp only [delF, Mem.del]
    cases Nat.beq k i <;> simp [ih]

/-- By value, and bare of tokens. -/
def bvN : T → Bool
  | .lit v => v.oneCell'
  | .sl none _ _ | .ifc _ _ => true
  | _ => false

/-- Behind an owned slice, or an empty one: the answer is owned. -/
def appO (m : Mem) (id : Nat) (i : TypeInfo) (s : T) (more : List (List T)) (K : T → Mem → Prop) : Prop :=
  (∀ row ∈ more, ∀ c ∈ row, bvN c = true) ∧
  match s with
  | .lit v => match isNilSl v with
    | true => more.length * i.bytes ≤ 140737488355328 ∧ more.length ≤ 9223372036854775807 ∧ memF m id (.own i.size more) (K (.sref id 0 more.length))
    | false => False
  | .sl (some j) sz [] => match m.get j with
    | some (.tok sz' 0) => chk (Nat.beq sz i.size) <| chk (Nat.beq sz' i.size) <| more.length * i.bytes ≤ 140737488355328 ∧ more.length ≤ 9223372036854775807 ∧
        delF m j fun m => memF m id (.own i.size more) (K (.sref id 0 more.length))
    | _ => False
  | .sref j lo len => match m.get j with
    | some (.own sz rows) => chk (Nat.beq lo 0) <| chk (Nat.beq sz i.size) <| (rows.length = len ∧ (len + more.length) * i.bytes ≤ 140737488355328 ∧ len + more.length ≤ 9223372036854775807) ∧
        delF m j fun m => memF m id (.own i.size (rows ++ more)) (K (.sref id 0 (len + more.length)))
    | _ => False
  | _ => False

def appendA (P : Program) (m : Mem) (id : Nat) (br : Bool) (ts tx : TypeId) (s x : T) (K : T → Mem → Prop) : Prop :=
  match P.underlying ts with
  | some (.slice e) => match P.info? e with
    | some i => match i.zero with
      | some z => chk (Nat.beq z.cells.size i.size) <| chk (Nat.blt 0 i.size) <| moreZ P m e i z tx x fun more => match br with
        | true => appO m id i s more K
        | false => match s with
          | .lit v => match isNilSl v with
            | true => more.length * i.bytes ≤ 140737488355328 ∧ more.length ≤ 9223372036854775807 ∧ memF m id (.tok i.size more.length) (K (.sl (some id) i.size more))
            | false => False
          | .sl (some j) sz rows => match m.get j with
            | some (.tok sz' n) => chk (Nat.beq sz i.size) <| chk (Nat.beq sz' i.size) <| rows.length = n ∧ (rows.length + more.length) * i.bytes ≤ 140737488355328 ∧
                rows.length + more.length ≤ 9223372036854775807 ∧
                memF m j (.tok i.size (rows.length + more.length)) (K (.sl (some j) i.size (rows ++ more)))
            | _ => False
          | _ => False
      | none => False
    | none => False
  | _ => False

/-- Rows, copied over others. -/
def splR (rows : List (List T)) (lo : Nat) (more : List (List T)) : List (List T) := rows.take lo ++ more ++ rows.drop (lo + more.length)
/-- Copying all of a row into an owned one. -/
def copyA (P : Program) (m : Mem) (ts tx : TypeId) (s x : T) (K : T → Mem → Prop) : Prop :=
  match P.underlying ts with
  | some (.slice e) => match P.info? e with
    | some i => chk (Nat.blt 0 i.size) <| moreA P m e i tx x fun more => match s with
      | .sref id lo len => match m.get id with
        | some (.own sz rows) => chk (Nat.beq sz i.size) <| ((∀ row ∈ more, ∀ c ∈ row, bvN c = true) ∧ more.length ≤ len ∧ lo + len ≤ rows.length) ∧
            memF m id (.own sz (splR rows lo more)) (K (.lit (.int .i64 more.length)))
        | _ => False
      | _ => False
    | none => False
  | _ => False

def mxI (a b : Int) : Int := if b > a then b else a
def mnI (a b : Int) : Int := if b < a then b else a
def mmA (mx : Bool) (l : List T) (K : T → Prop) : Prop :=
  match l with
  | [.lit (.int k a), .lit (.int _ b)] => match mx with
    | true => K (.lit (.int k (mxI a b)))
    | false => K (.lit (.int k (mnI a b)))
  | [.lit (.int k a), .lit (.int k' b), .lit (.int _ c)] => match mx with
    | false => K (.lit (.int k (mnI (mnI a b) c)))
    | true => K (.lit (.int k (mxI (mxI a b) c)))
  | [.lit (.int k a), .lit (.int _ b), .lit (.int _ c), .lit (.int _ d)] => match mx with
    | false => K (.lit (.int k (mnI (mnI (mnI a b) c) d)))
    | true => False
  | _ => False

/-- Values that are known whole. -/
def litsK : List T → (List Value → Prop) → Prop
  | [], K => K []
  | .lit v :: r, K => litsK r fun vs => K (v :: vs)
  | _ :: _, _ => False
theorem litsK_elim : ∀ {l : List T} {K : List Value → Prop}, litsK l K → ∃ vs, l = vs.map .lit ∧ K vs
  | [], K, h => ⟨[], rfl, h⟩
  | .lit v :: r, K, h => by
    obtain ⟨vs, e, h2⟩ := litsK_elim (l := r) (K := fun vs => K (v :: vs)) h
    exact ⟨v :: vs, by rw [e]; rfl, h2⟩
def valK (t : T) (K : Value → Prop) : Prop := match t with
  | .lit v => K v
  | .agg cs => litsK cs fun vs => K (.agg vs.toArray)
  | _ => False

/-- An interface value of a concrete one. -/
def mkIfcA (P : Program) (t : TypeId) (x : T) (K : T → Prop) : Prop :=
  match P.underlying t with
  | some (.interface _) => False
  | some _ => match x with
    | .lit v => K (.lit (.iface t v))
    | .agg cs => litsK cs fun vs => K (.lit (.iface t (.agg vs.toArray)))
    | .sl _ sz rows => K (.ifc t (.sl none sz rows))
    | _ => False
  | none => False
/-- Whether an interface value is of a concrete type. -/
def typeAsA (P : Program) (x : T) (asserted : TypeId) (ok : Bool) (K : T → Prop) : Prop :=
  match P.underlying asserted with
  | some (.interface _) => False
  | some _ => match P.info? asserted with
    | some i => match i.zero with
      | some z => match x with
        | .lit .nilIface => match ok with
          | true => K (.tup [ofV z, .lit (.bool false)])
          | false => False
        | .lit (.iface t v) => match Nat.beq t asserted, ok with
          | true, true => K (.tup [ofV v, .lit (.bool true)])
          | true, false => K (ofV v)
          | false, true => K (.tup [ofV z, .lit (.bool false)])
          | false, false => False
        | .ifc t x => match Nat.beq t asserted, ok with
          | true, true => forceT (untok x) fun x => K (.tup [x, .lit (.bool true)])
          | true, false => forceT (untok x) K
          | false, true => K (.tup [ofV z, .lit (.bool false)])
          | false, false => False
        | _ => False
      | none => False
    | none => False
  | none => False
/-- A function value, with what it has captured. -/
def makeFuncA (fn : Fn) (first caps : List T) (K : T → Prop) : Prop :=
  match fn, first with
  | .func f, [] => K (.clo f caps)
  | _, _ => False

/-- What a map holds at a key: `none`: the keys can't be told apart here. -/
def mapGet (d : TypeDesc) (k : Value) : List (Value × Value) → Option (Option Value)
  | [] => some none
  | (k', v) :: r => match Instr.sameNow d k k' with
    | some true => some (some v)
    | some false => mapGet d k r
    | none => none
def mapPut (d : TypeDesc) (k v : Value) : List (Value × Value) → Option (List (Value × Value))
  | [] => some [(k, v)]
  | (k', v') :: r => match Instr.sameNow d k k' with
    | some true => some ((k, v) :: r)
    | some false => (mapPut d k v r).map ((k', v') :: ·)
    | none => none
def keyDesc : TypeDesc → Bool
  | .string | .int _ => true
  | _ => false
def lookR (z : Value) (ok : Bool) (r : Option Value) : T :=
  match r with
  | some v => match ok with
    | true => .tup [ofV v, .lit (.bool true)]
    | false => ofV v
  | none => match ok with
    | true => .tup [ofV z, .lit (.bool false)]
    | false => ofV z
def lookupA (P : Program) (m : Mem) (t : TypeId) (x ix : T) (ok : Bool) (K : T → Prop) : Prop :=
  match P.underlying t with
  | some (.map kt et) => match P.underlying kt, P.info? et with
    | some kd, some ei => match ei.zero with
      | some z => chk (keyDesc kd) <| match x, ix with
        | .mref id, .lit k => match m.get id with
          | some (.map kv) => ∃ r, mapGet kd k kv = some r ∧ forceT (lookR z ok r) K
          | _ => False
        | _, _ => False
      | none => False
    | _, _ => False
  | _ => False
def mapUpdateA (P : Program) (m : Mem) (t : TypeId) (x k v : T) (K : Mem → Prop) : Prop :=
  match P.underlying t with
  | some (.map kt et) => match P.underlying kt with
    | some kd => chk (keyDesc kd) <| match x, k with
      | .mref id, .lit k => match m.get id with
        | some (.map kv) => valK v fun v => ∃ kv', mapPut kd k v kv = some kv' ∧ memF m id (.map kv') K
        | _ => False
      | _, _ => False
    | none => False
  | _ => False
def clearA (P : Program) (m : Mem) (t : TypeId) (x : T) (K : T → Mem → Prop) : Prop :=
  match P.underlying t with
  | some (.map _ _) => match x with
    | .mref id => match m.get id with
      | some (.map _) => memF m id (.map []) (K (.tup []))
      | _ => False
    | _ => False
  | _ => False

end Go.AW
