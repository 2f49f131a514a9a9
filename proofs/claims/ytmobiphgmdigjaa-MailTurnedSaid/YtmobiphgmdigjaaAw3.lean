import Derived.Test.YtmobiphgmdigjaaAw2
/- The abstract machine, on: making slices, converting, calling; regions and code. -/
set_option linter.unusedVariables false
set_option linter.unusedSimpArgs false
namespace Go.AW
open Go

def memB (l : List Nat) (i : Nat) : Bool := match l with | [] => false | x :: r => bif Nat.beq x i then true else memB r i

def makeSliceA (P : Program) (m : Mem) (id : Nat) (byref : Bool) (t : TypeId) (l c : T) (K : T → Mem → Prop) : Prop :=
  match P.underlying t with
  | some (.slice e) => match P.info? e with
    | some i => match i.zero with
      | some z => chk (Nat.beq z.cells.size i.size) <| chk (Nat.blt 0 i.size) <| chk (z.cells.toList.all Value.oneCell') <| match l, c with
        | .lit (.int .i64 l), .lit (.int .i64 c) => (0 ≤ l ∧ l ≤ c ∧ c ≤ 9223372036854775807 ∧ c * i.bytes ≤ 281474976710656) ∧
            match byref with
            | false => memF m id (.tok i.size l.toNat) (K (.sl (some id) i.size (List.replicate l.toNat (z.cells.toList.map .lit))))
            | true => memF m id (.own i.size (List.replicate l.toNat (z.cells.toList.map .lit))) (K (.sref id 0 l.toNat))
        | _, _ => False
      | none => False
    | none => False
  | _ => False

/-- A range over a string: its iterator, and its next rune. -/
def rangeA (P : Program) (m : Mem) (id : Nat) (t : TypeId) (x : T) (K : T → Mem → Prop) : Prop :=
  match P.underlying t with
  | some .string => match x with
    | .lit (.string s) => memF m id (.iter s 0) (K (.itr id))
    | _ => False
  | _ => False
def nextA (m : Mem) (isStr : Bool) (x : T) (K : T → Mem → Prop) : Prop :=
  match isStr with
  | true => match x with
    | .itr id => match m.get id with
      | some (.iter s pos) => match decide (pos < s.size) with
        | true => memF m id (.iter s (pos + (Utf8.decode s pos).2)) (K (.tup [.lit (.bool true), .lit (.int .i64 pos), .lit (.int .i32 (Utf8.decode s pos).1)]))
        | false => K (.tup [.lit (.bool false)]) m
      | _ => False
    | _ => False
  | false => False

/-- The parts of a slice literal without gaps, as rows. -/
def partsR (sz : Nat) : Nat → List (Nat × T) → (List (List T) → Prop) → Prop
  | _, [], K => K []
  | k, (j, x) :: r, K => chk (Nat.beq j k) <| forceT x fun x => chk (Nat.beq (cellsT x).length sz) <| chk ((cellsT x).all bvOk) <| partsR sz (k + 1) r fun rows => K ((cellsT x).map untok :: rows)
def partsO (sz : Nat) : Nat → List (Nat × T) → (List (List T) → Prop) → Prop
  | _, [], K => K []
  | k, (j, x) :: r, K => chk (Nat.beq j k) <| forceT x fun x => chk (Nat.beq (cellsT x).length sz) <| chk ((cellsT x).all cellOk) <| partsO sz (k + 1) r fun rows => K (cellsT x :: rows)

def buildSliceA (P : Program) (m : Mem) (id : Nat) (byref : Bool) (t : TypeId) (n : Nat) (ps : List (Nat × T)) (K : T → Mem → Prop) : Prop :=
  match P.underlying t with
  | some (.slice e) => match P.info? e with
    | some i => match i.zero with
      | some z => chk (Nat.beq z.cells.size i.size) <| chk (Nat.blt 0 i.size) <| chk (Nat.beq n ps.length) <| chk (Nat.ble (n * i.size) 16777216) <|
          match byref with
          | false => partsR i.size 0 ps fun rows => memF m id (.tok i.size rows.length) (K (.sl (some id) i.size rows))
          | true => partsO i.size 0 ps fun rows => memF m id (.own i.size rows) (K (.sref id 0 rows.length))
      | none => False
    | none => False
  | _ => False

def fillA (place : Nat → Option (Nat × Nat)) : List T → List (Nat × T) → (List T → Prop) → Prop
  | cs, [], K => K cs
  | cs, (j, x) :: r, K => match place j with
    | some (off, sz) => forceT x fun x => chk (Nat.beq (cellsT x).length sz) <| chk (Nat.ble (off + sz) cs.length) <| chk ((cellsT x).all cellOk) <| fillA place (spl cs off (cellsT x)) r K
    | none => False

def fieldAt (P : Program) (fs : Array Field) (j : Nat) : Option (Nat × Nat) :=
  match fs[j]? with
  | some f => match P.info? f.type with
    | some fi => some (f.offset, fi.size)
    | none => none
  | none => none

def buildA (P : Program) (t : TypeId) (ps : List (Nat × T)) (K : T → Prop) : Prop :=
  match P.info? t with
  | some i => match i.zero with
    | some z => match P.underlying t with
      | some (.struct fs) => chk (fs.toList.all fun f => (P.info? f.type).isSome) <|
          fillA (fieldAt P fs) (z.cells.toList.map .lit) ps fun cs => K (.agg cs)
      | some (.array n e) => match P.info? e with
        | some ei => fillA (fun j => some (j * ei.size, ei.size)) (z.cells.toList.map .lit) ps fun cs => K (.agg cs)
        | none => False
      | _ => False
    | none => False
  | none => False

def optI : Option T → Nat → (Nat → Prop) → Prop
  | none, d, K => K d
  | some (.lit (.int _ n)), _, K => 0 ≤ n ∧ K n.toNat
  | some _, _, _ => False

def sliceA (P : Program) (m : Mem) (t : TypeId) (x : T) (lo hi mx : Option T) (K : T → Prop) : Prop :=
  match P.underlying t with
  | some .string => match x, mx with
    | .lit (.string s), none => optI hi s.size fun h => optI lo 0 fun l => (l ≤ h ∧ h ≤ s.size) ∧ K (.lit (.string (s.extract l h)))
    | _, _ => False
  | some (.slice e) => match P.info? e with
    | some i => match x with
      | .sl _ sz rows => match mx with
        | none => chk (Nat.beq sz i.size) <| optI hi rows.length fun h => optI lo 0 fun l => (l ≤ h ∧ h ≤ rows.length) ∧ K (.sl none sz ((rows.drop l).take (h - l)))
        | some _ => chk (Nat.beq sz i.size) <| optI mx 0 fun mm => optI hi 0 fun h => optI lo 0 fun l => (hi.isSome = true ∧ l ≤ h ∧ h ≤ mm ∧ mm ≤ rows.length) ∧ K (.sl none sz ((rows.drop l).take (h - l)))
      | .sref id b len => match mx, m.get id with
        | none, some (.own sz rows) => chk (Nat.beq sz i.size) <| optI hi len fun h => optI lo 0 fun l => (l ≤ h ∧ h ≤ len) ∧ K (.sref id (b + l) (h - l))
        | _, _ => False
      | _ => False
    | none => False
  | _ => False

def convertA (P : Program) (m : Mem) (id : Nat) (byref : Bool) (src dst : TypeId) (x : T) (K : T → Mem → Prop) : Prop :=
  match P.underlying src, P.underlying dst with
  | some s, some d =>
    match d, x with
    | .int k, .lit (.int _ n) => K (.lit (.int k (k.wrap n))) m
    | .string, .lit (.string b) => K (.lit (.string b)) m
    | .string, .lit (.int _ n) => K (.lit (.string (Utf8.encode n))) m
    | .string, .lit v => match s, isNilSl v with
      | .slice e, true => match P.underlying e with
        | some (.int .u8) | some (.int .i32) => K (.lit (.string ByteArray.empty)) m
        | _ => False
      | _, _ => False
    | .string, x => match s with
      | .slice e => match P.underlying e with
        | some (.int .u8) => rowsOf m x fun sz rows => ∃ l : List UInt8, (sz = 1 ∧ rows = bytesR l) ∧ K (.lit (.string ⟨l.toArray⟩)) m
        | some (.int .i32) => rowsOf m x fun sz rows => ∃ l : List Int, (sz = 1 ∧ rows = runesR l) ∧ K (.lit (.string (l.foldl (fun a c => a ++ Utf8.encode c) ByteArray.empty))) m
        | _ => False
      | _ => False
    | .slice e, .lit (.string b) => match P.underlying e with
      | some (.int .u8) => match byref with
        | false => memF m id (.tok 1 b.size) (K (.sl (some id) 1 (bytesR b.data.toList)))
        | true => memF m id (.own 1 (bytesR b.data.toList)) (K (.sref id 0 b.size))
      | _ => False
    | .slice e, .sl (some j) sz rows => match P.underlying e with
      | some (.int .u8) => chk (Nat.beq src dst) <| match m.get j with
        | some (.tok sz' n) => rows.length = n ∧ 0 < n ∧ K (.sl (some j) sz rows) m
        | _ => False
      | _ => False
    | _, _ => False
  | _, _ => False

/-- By-value arguments. -/
def bvA : T → Bool
  | .agg cs => cs.all bvOk
  | x => bvOk x
def bvL : List T → Bool
  | [] => true
  | x :: r => bvA x && bvL r
def untokA : T → T
  | .agg cs => .agg (cs.map untok)
  | x => untok x

/-- A call of a function of data: what it answers, and that it changes nothing. -/
def FCv (P : Program) (f : FuncId) (ts : List T) (o : T) : Prop :=
  ∀ (X : Xs) (w : World) (args : List Value), (∀ b off, X b off → b < w.heap.size) → GOk X w → ts.length = args.length →
    (∀ (i : Nat) (t : T) (v : Value), ts[i]? = some t → args[i]? = some v → VRel X (fun _ => none) w t v) →
    Calls P f args.toArray w fun e w' => ∃ v X', e = .returned v ∧ XMono X X' w w' ∧ Ext (fun b => w.heap.size ≤ b) w w' ∧
      (∀ b off, X' b off → b < w'.heap.size ∧ (X b off ∨ w.heap.size ≤ b)) ∧ VRel X' (fun _ => none) w' o v

/-- An argument as the called function sees it: what is owned is lent, to be read. -/
def lend (m : Mem) (t : T) (K : T → Prop) : Prop :=
  match t with
  | .sref id lo len => match m.get id with
    | some (.own sz rows) => (lo + len ≤ rows.length ∧ ∀ row ∈ (rows.drop lo).take len, ∀ c ∈ row, bvN c = true) ∧ K (.sl none sz ((rows.drop lo).take len))
    | _ => False
  | .ptr id row off => match m.get id with
    | some (.own sz rows) => nthK rows row fun r => (∀ c ∈ r, bvN c = true) ∧ K (.vp r off)
    | _ => False
  | .vp r off => (∀ c ∈ r, bvN c = true) ∧ K (.vp r off)
  | .clo f [] => K (.clo f [])
  | t => chk (bvA t) (forceT (untokA t) K)
def lendL (m : Mem) : List T → (List T → Prop) → Prop
  | [], K => K []
  | t :: r, K => lend m t fun t' => lendL m r fun r' => K (t' :: r')
/-- A result that reaches no cell. -/
def nolink : T → Bool
  | .lit _ => true
  | .agg cs => cs.all fun c => match c with | .lit _ => true | _ => false
  | .tup cs => cs.all fun c => match c with | .lit _ => true | _ => false
  | _ => false

def callA (P : Program) (m : Mem) (f : FuncId) (ts : List T) (K : T → Prop) : Prop :=
  match P.funcs[f]? with
  | some fn => chk fn.body.isSome <| chk (!(fn.name == "runtime.NumGoroutine")) <| lendL m ts fun ts' => ∃ o, FCv P f ts' o ∧ chk (bvL ts || nolink o) (forceT o K)
  | none => False

def partsOf (l : List (Nat × T)) (ps : Array (Nat × Operand)) : List (Nat × T) := ps.toList.map fun p => (p.1, ev l p.2)

def byref (rl : List Nat) (d : Option Nat) : Bool := match d with | some d => memB rl d | none => false

def noClo : T → Bool
  | .clo _ _ => false
  | _ => true
def opA (P : Program) (ρ : List (Nat × T)) (m : Mem) (rl : List Nat) (id : Nat) (o : Oper) (K : T → Mem → Prop) : Prop :=
  match o.op with
  | .move x | .assign x => forceT (ev ρ x) (fun v => K v m)
  | .pick c a b => pickA (ev ρ c) (ev ρ a) (ev ρ b) (fun v => K v m)
  | .alloc t => allocA P m id t K
  | .box t x => boxA P m id t (ev ρ x) K
  | .build t ps => buildA P t (partsOf ρ ps) (fun v => K v m)
  | .buildSlice t n ps => buildSliceA P m id (byref rl o.dst) t n (partsOf ρ ps) K
  | .load t a => loadA P m t (ev ρ a) (fun v => K v m)
  | .store t a x => forceT (ev ρ x) fun x => storeA P m t (ev ρ a) x fun m => K (.lit undef) m
  | .nilCheck x => match ev ρ x with
    | .ptr a b c => K (.ptr a b c) m
    | .vp a b => K (.vp a b) m
    | _ => False
  | .binOp op ty x y _ => binA P op ty x y (ev ρ x) (ev ρ y) (fun v => K v m)
  | .unOp op _ x => unA op (ev ρ x) (fun v => K v m)
  | .convert src dst x => convertA P m id (byref rl o.dst) src dst (ev ρ x) K
  | .makeSlice t l c => makeSliceA P m id (byref rl o.dst) t (ev ρ l) (ev ρ c) K
  | .slice t x lo hi mx => sliceA P m t (ev ρ x) (lo.map (ev ρ)) (hi.map (ev ρ)) (mx.map (ev ρ)) (fun v => K v m)
  | .fieldAddr t x f => fieldAddrA P t (ev ρ x) f (fun v => K v m)
  | .field t x f => fieldA P t (ev ρ x) f (fun v => K v m)
  | .indexAddr t x ix => indexAddrA P m t (ev ρ x) (ev ρ ix) (fun v => K v m)
  | .index t x ix => indexA P t (ev ρ x) (ev ρ ix) (fun v => K v m)
  | .extract x i => extractA (ev ρ x) i (fun v => K v m)
  | .range t x => rangeA P m id t (ev ρ x) K
  | .makeInterface t x => mkIfcA P t (ev ρ x) (fun v => K v m)
  | .typeAssert x _ t ok => typeAsA P (ev ρ x) t ok (fun v => K v m)
  | .makeFunc fn first caps => makeFuncA fn (first.toList.map (ev ρ)) (caps.toList.map (ev ρ)) (fun v => K v m)
  | .makeMap _ r => chk r.isNone (memF m id (.map []) (K (.mref id)))
  | .lookup t x ix ok => lookupA P m t (ev ρ x) (ev ρ ix) ok (fun v => K v m)
  | .mapUpdate t x k v => mapUpdateA P m t (ev ρ x) (ev ρ k) (ev ρ v) (fun m => K (.lit undef) m)
  | .next x s => nextA m s (ev ρ x) K
  | .call c => match c.callee with
    | .value (.func f) => callA P m f (c.args.toList.map (ev ρ)) (fun v => K v m)
    | .value (.tmp i) => match look ρ i with
      | .clo f caps => chk (caps.all noClo) (callA P m f (c.args.toList.map (ev ρ) ++ caps) (fun v => K v m))
      | _ => False
    | .builtin .clear => match c.args.toList, c.argTypes.toList with
      | [x], t :: _ => clearA P m t (ev ρ x) K
      | _, _ => False
    | .builtin .len => match c.args.toList, c.argTypes.toList with
      | [x], t :: _ => lenA P t (ev ρ x) (fun v => K v m)
      | _, _ => False
    | .builtin .append => match c.args.toList, c.argTypes.toList with
      | [x, y], [tx, ty] => appendA P m id (byref rl o.dst) tx ty (ev ρ x) (ev ρ y) K
      | _, _ => False
    | .builtin .copy => match c.args.toList, c.argTypes.toList with
      | [x, y], [tx, ty] => copyA P m tx ty (ev ρ x) (ev ρ y) K
      | _, _ => False
    | .builtin .max => mmA true (c.args.toList.map (ev ρ)) (fun v => K v m)
    | .builtin .min => mmA false (c.args.toList.map (ev ρ)) (fun v => K v m)
    | _ => False
  | _ => False

/-- A renaming of ids. -/
def asGet : List (Nat × Nat) → Nat → Nat
  | [], _ => 0
  | (i, j) :: r, k => bif Nat.beq i k then j else asGet r k
def asHas : List (Nat × Nat) → Nat → Bool
  | [], _ => false
  | (i, _) :: r, k => bif Nat.beq i k then true else asHas r k
def ren0 (σ : List (Nat × Nat)) : T → T
  | .sl (some i) sz rows => .sl (some (asGet σ i)) sz rows
  | .ptr i r o => .ptr (asGet σ i) r o
  | .sref i l n => .sref (asGet σ i) l n
  | .itr i => .itr (asGet σ i)
  | .mref i => .mref (asGet σ i)
  | t => t
def renA (σ : List (Nat × Nat)) : T → T
  | .agg cs => .agg (cs.map (ren0 σ))
  | t => ren0 σ t
def renT (σ : List (Nat × Nat)) : T → T
  | .tup cs => .tup (cs.map (renA σ))
  | .clo f cs => .clo f (cs.map (ren0 σ))
  | t => renA σ t
def renB (σ : List (Nat × Nat)) : Blk → Blk
  | .own sz rows => .own sz (rows.map fun r => r.map (ren0 σ))
  | b => b
/-- Its ids are those renamed. -/
def dom0 (σ : List (Nat × Nat)) : T → Bool
  | .sl (some i) _ _ | .ptr i _ _ | .sref i _ _ | .itr i | .mref i => asHas σ i
  | .agg _ | .tup _ | .clo _ _ => false
  | _ => true
def domA (σ : List (Nat × Nat)) : T → Bool
  | .agg cs => cs.all (dom0 σ)
  | t => dom0 σ t
def domT (σ : List (Nat × Nat)) : T → Bool
  | .tup cs => cs.all (domA σ)
  | .clo _ cs => cs.all (dom0 σ)
  | t => domA σ t
def domB (σ : List (Nat × Nat)) : Blk → Prop
  | .own _ rows => ∀ row ∈ rows, ∀ c ∈ row, dom0 σ c = true
  | _ => True

/-- A call of a function that reads and changes memory: its own ids are those of `m`, below `k`; new ones are from `k`. -/
def FCe (E : Ending → Value → Prop) (P : Program) (f : FuncId) (ts : List T) (m : Mem) (k : Nat) (o : T) (m' : Mem) : Prop :=
  ∀ (X : Xs) (W : Nat → Prop) (pl : Pl) (w : World) (args : List Value), MRel X W pl w m → (∀ b, w.heap.size ≤ b → W b) → (∀ id l, pl id = some l → id < k) → ts.length = args.length →
    (∀ (i : Nat) (t : T) (v : Value), ts[i]? = some t → args[i]? = some v → VRel X pl w t v) →
    Calls P f args.toArray w fun e w' => ∃ v X' pl', E e v ∧ XMono X X' w w' ∧ PMono pl pl' w w' ∧ Ext W w w' ∧ MRel X' W pl' w' m' ∧ (∀ b off, X' b off → X b off ∨ W b) ∧ VRel X' pl' w' o v
def FCm (P : Program) (f : FuncId) (ts : List T) (m : Mem) (k : Nat) (o : T) (m' : Mem) : Prop := FCe (fun e v => e = .returned v) P f ts m k o m'
/-- A call that panics, with a value that is told. -/
def panE (v0 : Value) (e : Ending) (v : Value) : Prop := e = .panicked [{ v := v0, recovered := false }]
def FCx (P : Program) (f : FuncId) (ts : List T) (m : Mem) (k : Nat) (v0 : Value) : Prop := FCe (panE v0) P f ts m k .dead []

def delL : List Nat → Mem → (Mem → Prop) → Prop
  | [], m, K => K m
  | j :: r, m, K => delF m j fun m => delL r m K
def putL : Mem → Mem → (Mem → Prop) → Prop
  | [], m, K => K m
  | (i, b) :: r, m, K => putL r m fun m => memF m i b K
def asIn : List Nat → Nat → List (Nat × Nat)
  | [], _ => []
  | j :: r, i => (i, j) :: asIn r (i + 1)
def nodupB : List Nat → Bool
  | [] => true
  | j :: r => !memB r j && nodupB r
def hasL (m : Mem) : List Nat → Prop
  | [] => True
  | j :: r => (m.get j).isSome = true ∧ hasL m r
def memIn (σ : List (Nat × Nat)) (m : Mem) : Mem → Prop
  | [] => True
  | (i, b) :: r => (asHas σ i = true ∧ m.get (asGet σ i) = some (renB σ b) ∧ domB σ b) ∧ memIn σ m r
def memOut (σ : List (Nat × Nat)) : Mem → Mem → Prop
  | [], [] => True
  | (i, b) :: r, (j, c) :: s => (asHas σ i = true ∧ asGet σ i = j ∧ renB σ b = c ∧ domB σ b) ∧ memOut σ r s
  | _, _ => False

abbrev callJ (P : Program) (m : Mem) (id : Nat) (f : FuncId) (ts : List T) (js : List Nat) (K : T → Mem → Prop) : Prop :=
  ∃ (ts0 : List T) (m0 : Mem) (o : T) (m1 mR : Mem) (oR : T), FCm P f ts0 m0 js.length o m1 ∧
        (nodupB js = true ∧ hasL m js ∧ ts0.map (renT (asIn js 0)) = ts ∧ ts0.all (domT (asIn js 0)) = true ∧ memIn (asIn js 0) m m0 ∧
          renT (asIn (js ++ [id]) 0) o = oR ∧ domT (asIn (js ++ [id]) 0) o = true ∧ memOut (asIn (js ++ [id]) 0) m1 mR) ∧
        delL js m fun m => putL mR m fun m => forceT oR fun o => K o m
/-- A function that has a text. -/
def fnOk (P : Program) (f : FuncId) (p : Prop) : Prop :=
  match P.funcs[f]? with
  | some fn => chk fn.body.isSome <| chk (!(fn.name == "runtime.NumGoroutine")) p
  | none => False
/-- A call that panics. -/
abbrev callX (P : Program) (m : Mem) (f : FuncId) (ts : List T) (js : List Nat) (KP : Value → Mem → Prop) : Prop :=
  ∃ (ts0 : List T) (m0 : Mem) (v : Value), FCx P f ts0 m0 js.length v ∧
        (nodupB js = true ∧ hasL m js ∧ ts0.map (renT (asIn js 0)) = ts ∧ ts0.all (domT (asIn js 0)) = true ∧ memIn (asIn js 0) m m0) ∧ delL js m fun m => KP v m

/-- The function that is called, and all that it is handed. -/
def calleeK (ρ : List (Nat × T)) (c : Call) (K : FuncId → List T → Prop) : Prop :=
  match c.callee with
  | .value (.func f) => K f (c.args.toList.map (ev ρ))
  | .value (.tmp i) => match look ρ i with
    | .clo f caps => K f (c.args.toList.map (ev ρ) ++ caps)
    | _ => False
  | _ => False
def markB (n : Nat) (rl : List Nat) (c : Call) : Bool :=
  match c.callee with
  | .value (.func f) => memB rl (f + n)
  | .value (.tmp i) => memB rl (i + (n + 500000))
  | _ => false
/-- Is it a call that changes memory? (Functions: 1000000 and more; closures in slots: 1500000 and more.) -/
def mcall (rl : List Nat) (o : Oper) : Bool :=
  match o.op with
  | .call c => markB 1000000 rl c
  | _ => false
/-- May it panic? (3000000 and more.) -/
def xcall (rl : List Nat) (o : Oper) : Bool :=
  match o.op with
  | .call c => markB 3000000 rl c
  | _ => false
def isPanic (o : Oper) : Bool := match o.op with
  | .panic _ => true
  | _ => false
def callMop (P : Program) (ρ : List (Nat × T)) (m : Mem) (id : Nat) (o : Oper) (js : List Nat) (K : T → Mem → Prop) : Prop :=
  match o.op with
  | .call c => calleeK ρ c fun f ts => fnOk P f (callJ P m id f ts js K)
  | _ => False
def callMAny (P : Program) (ρ : List (Nat × T)) (m : Mem) (id : Nat) (o : Oper) (K : T → Mem → Prop) : Prop :=
  match o.op with
  | .call c => calleeK ρ c fun f ts => fnOk P f (∃ js, callJ P m id f ts js K)
  | _ => False
def opM (P : Program) (ρ : List (Nat × T)) (m : Mem) (rl : List Nat) (id : Nat) (o : Oper) (K : T → Mem → Prop) : Prop :=
  match mcall rl o with
  | true => callMAny P ρ m id o K
  | false => opA P ρ m rl id o K
/-- The same, the ids that a call is handed being known. -/
def opJ (P : Program) (ρ : List (Nat × T)) (m : Mem) (rl : List Nat) (id : Nat) (js : List Nat) (o : Oper) (K : T → Mem → Prop) : Prop :=
  match mcall rl o with
  | true => callMop P ρ m id o js K
  | false => opA P ρ m rl id o K
/-- An operation that panics. -/
def opXJ (P : Program) (ρ : List (Nat × T)) (m : Mem) (js : List Nat) (o : Oper) (KP : Value → Mem → Prop) : Prop :=
  match o.op with
  | .panic x => match ev ρ x with
    | .lit (.iface t v) => KP (.iface t v) m
    | _ => False
  | .call c => calleeK ρ c fun f ts => fnOk P f (callX P m f ts js KP)
  | _ => False
def opX (P : Program) (ρ : List (Nat × T)) (m : Mem) (o : Oper) (KP : Value → Mem → Prop) : Prop :=
  match o.op with
  | .panic x => match ev ρ x with
    | .lit (.iface t v) => KP (.iface t v) m
    | _ => False
  | .call c => calleeK ρ c fun f ts => fnOk P f (∃ js, callX P m f ts js KP)
  | _ => False
/-- An operation goes on, or it panics. -/
def stepP (rl : List Nat) (o : Oper) (px pn : Prop) : Prop :=
  match isPanic o with
  | true => px
  | false => match xcall rl o with
    | true => pn ∨ px
    | false => pn

/-- Is an operation wanted? -/
def guardA (t : List (Nat × T)) (ops : Array Oper) (g : Option (Nat × Bool)) (p q : Prop) : Prop :=
  match g with
  | none => p
  | some (j, w) => match ops[j]? with
    | some o => match o.dst with
      | some d => match look t d with
        | .lit (.bool b) => match w with
          | true => br b p q
          | false => br b q p
        | .lit (.tuple _) => q
        | _ => False
      | none => False
    | none => False

def putD (l : List (Nat × T)) (n : Nat) (d : Option Nat) (v : T) (K : List (Nat × T) → Prop) : Prop :=
  match d with
  | none => K l
  | some i => chk (Nat.blt i n) (putF l i v K)

/-- Does an operation use up a number? -/
def isNew : Op → Bool
  | .alloc _ | .box _ _ | .buildSlice _ _ _ | .makeSlice _ _ _ | .convert _ _ _ | .range _ _ | .makeMap _ _ => true
  | .call c => match c.callee with
    | .builtin .append => true
    | _ => false
  | _ => false

/-- The ids of a value. -/
def idsT : T → List Nat
  | .sl (some i) _ _ | .ptr i _ _ | .sref i _ _ | .itr i | .mref i => [i]
  | .clo _ cs => cs.flatMap fun c => match c with
    | .sl (some i) _ _ | .ptr i _ _ | .sref i _ _ | .itr i | .mref i => [i]
    | _ => []
  | _ => []
/-- The ids that an operation may read. -/
def fpOf (ρ : List (Nat × T)) (o : Op) : List Nat := o.operands.toList.flatMap fun y => idsT (ev ρ y)
def wrApp (id : Nat) (br : Bool) (s : T) : List Nat := match br with
  | true => id :: idsT s
  | false => match s with
    | .sl (some j) _ _ => [j]
    | _ => [id]
def wrConv (P : Program) (id : Nat) (d : TypeId) (x : T) : List Nat := match P.underlying d, x with
  | some (.slice _), .lit (.string _) => [id]
  | _, _ => []
/-- The ids that an operation writes. -/
def wrOf (P : Program) (ρ : List (Nat × T)) (id : Nat) (br : Bool) (o : Op) : List Nat :=
  match o with
  | .store _ a _ => idsT (ev ρ a)
  | .alloc _ | .box _ _ | .buildSlice _ _ _ | .makeSlice _ _ _ | .range _ _ | .makeMap _ _ => [id]
  | .mapUpdate _ x _ _ => idsT (ev ρ x)
  | .next x _ => idsT (ev ρ x)
  | .convert _ d x => wrConv P id d (ev ρ x)
  | .call c => match c.callee, c.args.toList with
    | .builtin .append, y :: _ => wrApp id br (ev ρ y)
    | .builtin .copy, y :: _ => idsT (ev ρ y)
    | .builtin .clear, y :: _ => idsT (ev ρ y)
    | _, _ => []
  | _ => []

def fpJ (ρ : List (Nat × T)) (rl : List Nat) (id : Nat) (js : List Nat) (o : Oper) : List Nat := bif mcall rl o then id :: js else fpOf ρ o.op
def wrJ (P : Program) (ρ : List (Nat × T)) (rl : List Nat) (id : Nat) (js : List Nat) (o : Oper) : List Nat := bif mcall rl o then id :: js else wrOf P ρ id (byref rl o.dst) o.op

def forceNat (n : Nat) (K : Nat → Prop) : Prop := match n with | 0 => K 0 | k + 1 => K (k + 1)
theorem forceNat_eq (n : Nat) (K : Nat → Prop) : forceNat n K = K n := by cases n <;> rfl
def bump (b : Bool) (x : Nat) (K : Nat → Prop) : Prop := match b with | true => forceNat (x + 1) K | false => K x

abbrev KPan := Value → List (Nat × T) → Mem → Nat → Prop
noncomputable def opsA (P : Program) (all : Array Oper) (n : Nat) (rl : List Nat) (KP : KPan) (l : List Oper) : List (Nat × T) → Mem → Nat → (List (Nat × T) → Mem → Nat → Prop) → Prop :=
  List.rec (motive := fun _ => List (Nat × T) → Mem → Nat → (List (Nat × T) → Mem → Nat → Prop) → Prop)
    (fun t m x K => K t m x)
    (fun o _ ih t m x K => guardA t all o.guard
      (stepP rl o (opX P t m o fun v m' => forceNat (x + 1) fun x' => KP v t m' x')
        (opM P t m rl x o fun v m' => putD t n o.dst v fun t' => bump (isNew o.op || mcall rl o) x fun x' => ih t' m' x' K))
      (putD t n o.dst (.lit undef) fun t' => ih t' m x K)) l

theorem opsA_nil {P : Program} {all : Array Oper} {n : Nat} {rl : List Nat} {KP : KPan} {t : List (Nat × T)} {m : Mem} {x : Nat} {K : List (Nat × T) → Mem → Nat → Prop} : opsA P all n rl KP [] t m x K = K t m x := rfl
theorem opsA_cons {P : Program} {all : Array Oper} {n : Nat} {rl : List Nat} {KP : KPan} {o : Oper} {r : List Oper} {t : List (Nat × T)} {m : Mem} {x : Nat} {K : List (Nat × T) → Mem → Nat → Prop} :
    opsA P all n rl KP (o :: r) t m x K = guardA t all o.guard
      (stepP rl o (opX P t m o fun v m' => forceNat (x + 1) fun x' => KP v t m' x')
        (opM P t m rl x o fun v m' => putD t n o.dst v fun t' => bump (isNew o.op || mcall rl o) x fun x' => opsA P all n rl KP r t' m' x' K))
      (putD t n o.dst (.lit undef) fun t' => opsA P all n rl KP r t' m x K) := rfl

/-- What was done by an operation of a region that draws: its number, those before it (bits), the slots that it looks at and sets, the ids that it reads and writes. -/
structure Rec where
  i : Nat
  mask : Nat
  lk : List Nat
  ds : List Nat
  fp : List Nat
  wr : List Nat
def disjB : List Nat → List Nat → Bool
  | [], _ => true
  | k :: r, b => bif memB b k then false else disjB r b
def maskOf : List Rec → Nat → Nat
  | [], _ => 0
  | r :: rs, j => bif Nat.beq r.i j then r.mask else maskOf rs j
def maskE (rs : List Rec) : List Edge → Nat → Nat
  | [], a => a
  | e :: r, a => bif Region.binds .any e then maskE rs r (a ||| 2 ^ e.on ||| maskOf rs e.on) else maskE rs r a
def okRec : List Rec → Rec → Bool
  | [], _ => true
  | r :: rs, q => bif (Nat.testBit q.mask r.i || (disjB r.wr q.fp && disjB q.wr r.fp && disjB q.wr r.wr && disjB r.ds q.lk && disjB q.ds r.lk && disjB q.ds r.ds)) then okRec rs q else false
def forceL (l : List Nat) (K : List Nat → Prop) : Prop :=
  match l with
  | [] => K []
  | k :: r => forceNat k fun k => forceL r fun r => K (k :: r)
theorem forceL_eq (l : List Nat) (K : List Nat → Prop) : forceL l K = K l := by
  induction l generalizing K with
  | nil => rfl
  | cons k r ih => simp only [forceL, forceNat_eq, ih]
def looksL (all : Array Oper) (o : Oper) : List Nat :=
  (o.op.operands.toList.filterMap fun | .tmp t => some t | _ => none) ++ (match o.guard with
    | some (g, _) => match all[g]? with
      | some q => q.dst.toList
      | none => []
    | none => [])

/-- A load that hangs on nothing. -/
def loadB (o : Oper) : Bool := match o.op, o.guard, o.after.toList with
  | .load _ _, none, [] => true
  | _, _, _ => false
/-- All operations behind hang on those that can't be done; or they are loads that hang on nothing. -/
def depB : Nat → Nat → List Oper → Bool
  | _, _, [] => true
  | bl, j, o :: r => bif loadB o then depB bl (j + 1) r else bif o.after.toList.any (fun e => Region.binds .any e && Nat.testBit bl e.on) then depB (bl ||| 2 ^ j) (j + 1) r else false
/-- What was done by none of these. -/
def setB : List Rec → Nat → Bool
  | [], _ => false
  | r :: rs, k => bif memB r.ds k then true else setB rs k
def wrB : List Rec → Nat → Bool
  | [], _ => false
  | r :: rs, k => bif memB r.wr k then true else wrB rs k
def dropT (rs : List Rec) : List (Nat × T) → (List (Nat × T) → Prop) → Prop
  | [], K => K []
  | (k, v) :: r, K => bif setB rs k then dropT rs r K else dropT rs r fun r' => K ((k, v) :: r')
def dropM (rs : List Rec) : Mem → (Mem → Prop) → Prop
  | [], K => K []
  | (k, v) :: r, K => bif wrB rs k then dropM rs r K else dropM rs r fun r' => K ((k, v) :: r')

/-- The ids of an operation that is a call are told ahead. -/
def jsK (b : Bool) (p : List Nat → Prop) : Prop := match b with
  | true => ∃ js, p js
  | false => p []
def dstB (n : Nat) : Option Nat → Bool
  | none => true
  | some d => Nat.blt d n
/-- Loads behind an operation that panics: they may be done ahead of it. -/
noncomputable def harmK (P : Program) (all : Array Oper) (n : Nat) (t : List (Nat × T)) (m : Mem) (l : List Oper) : List Rec → (List Rec → Prop) → Prop :=
  List.rec (motive := fun _ => List Rec → (List Rec → Prop) → Prop)
    (fun rs K => K rs)
    (fun o _ ih rs K => match loadB o with
      | true => forceL (looksL all o) fun lk => forceL (fpOf t o.op) fun fp => chk (dstB n o.dst && disjB o.dst.toList lk && okRec rs ⟨0, 0, lk, o.dst.toList, fp, []⟩) <| opJ P t m [] 0 [] o fun _ _ => ih (⟨0, 0, lk, o.dst.toList, fp, []⟩ :: rs) K
      | false => ih rs K) l
/-- A region that draws, in the order of the text. -/
noncomputable def opsD (P : Program) (all : Array Oper) (n : Nat) (rl : List Nat) (x : Nat) (KP : Value → List (Nat × T) → Mem → Prop) (l : List Oper) : Nat → List (Nat × T) → Mem → List Rec → (List (Nat × T) → Mem → Prop) → Prop :=
  List.rec (motive := fun _ => Nat → List (Nat × T) → Mem → List Rec → (List (Nat × T) → Mem → Prop) → Prop)
    (fun _ t m _ K => K t m)
    (fun o l ih i t m rs K => forceNat (maskE rs o.after.toList 0) fun mask => forceL (looksL all o) fun lk => guardA t all o.guard
      (stepP rl o
        (chk (depB (2 ^ (i + 0)) (i + 0 + 1) l) <| jsK (!isPanic o) fun js => forceL js fun js => chk (okRec rs ⟨i, mask, lk, o.dst.toList, js, js⟩) <|
          opXJ P t m js o fun v m' => harmK P all n t m l (⟨i, 0, lk, [], [], []⟩ :: rs) fun rs' => dropT rs' t fun t' => dropM rs' m' fun m' => KP v t' m')
        (forceNat (x + i) fun id => jsK (mcall rl o) fun js => forceL (fpJ t rl id js o) fun fp => forceL (wrJ P t rl id js o) fun wr => chk (okRec rs ⟨i, mask, lk, o.dst.toList, fp, wr⟩) <|
          opJ P t m rl id js o fun v m' => putD t n o.dst v fun t' => ih (i + 1) t' m' (⟨i, mask, lk, o.dst.toList, fp, wr⟩ :: rs) K))
      (chk (okRec rs ⟨i, mask, lk, o.dst.toList, [], []⟩) <| putD t n o.dst (.lit undef) fun t' => ih (i + 1) t' m (⟨i, mask, lk, o.dst.toList, [], []⟩ :: rs) K)) l

/-- What an abstract state says of the machine's. -/
structure Rel (X : Xs) (W : Nat → Prop) (pl : Pl) (s : S) (tmps : Array Value) (w : World) : Prop where
  size : tmps.size = s.n
  vals : ∀ i, VRel X pl w (look s.t i) (tmps.getD i undef)
  mem : MRel X W pl w s.m
  next : ∀ id, s.x ≤ id → pl id = none

/-- One state says no more than another. -/
def kOf : List Nat → Nat
  | [] => 0
  | j :: r => bif Nat.ble 2000000 j then j - 2000000 else kOf r
def Wk (s s' : S) : Prop := kOf s'.r = kOf s.r ∧ ∀ X W pl tmps w, Rel X W pl s tmps w → ∃ pl', Rel X W pl' s' tmps w ∧ ∀ id, id < kOf s.r → pl' id = pl id

inductive Ex where
  | normal
  | ret
  | exit (n : Nat)
  | pan (v : Value)

/-- What comes behind. -/
def seqK (b : (Ex → S → Prop) → S → Prop) (Q : Ex → S → Prop) (e : Ex) (s : S) : Prop :=
  match e with
  | .normal => b Q s
  | .ret => Q .ret s
  | .exit n => Q (.exit n) s
  | .pan v => Q (.pan v) s
def blockK (id : Nat) (Q : Ex → S → Prop) (e : Ex) (s : S) : Prop :=
  match e with
  | .exit i => (match Nat.beq i id with | true => Q .normal s | false => Q (.exit i) s)
  | .normal => Q .normal s
  | .ret => Q .ret s
  | .pan v => Q (.pan v) s
def loopK (N : S → Prop) (Q : Ex → S → Prop) (e : Ex) (s : S) : Prop :=
  match e with
  | .normal => N s
  | .ret => Q .ret s
  | .exit i => Q (.exit i) s
  | .pan v => Q (.pan v) s

/-- A loop: a number falls from round to round, and states of one form come back. -/
def LoopW (body : (Ex → S → Prop) → S → Prop) (Q : Ex → S → Prop) (s : S) : Prop :=
  ∃ I : Nat → S → Prop, (∃ n s0, Wk s s0 ∧ I n s0) ∧ ∀ n s1, I n s1 → body (loopK (fun s' => ∃ m s2, m < n ∧ Wk s' s2 ∧ I m s2) Q) s1

/-- All edges that bind point back. -/
def edgesB : Nat → List Oper → Bool
  | _, [] => true
  | i, o :: r => bif o.after.toList.all (fun e => !Region.binds .any e || Nat.blt e.on i) then edgesB (i + 1) r else false

/-- No edge that binds in one mode alone. -/
def evenB : List Oper → Bool
  | [] => true
  | o :: r => bif o.after.toList.all (Region.binds .any) then evenB r else false
def mixB (P : Program) (l : List Oper) : Bool := bif evenB l then true else P.follows .mixedOrders

def lenF : List Oper → Nat → Nat
  | [], n => n
  | _ :: r, n => lenF r (n + 1)
theorem lenF_eq : ∀ (l : List Oper) (n : Nat), lenF l n = n + l.length
  | [], n => rfl
  | _ :: r, n => by rw [lenF, lenF_eq r]; simp only [List.length_cons]; omega

def regionW (P : Program) (ops : Array Oper) (draw : Bool) (Q : Ex → S → Prop) (s : S) : Prop :=
  match draw with
  | false => match s with
    | ⟨t, m, n, x, r⟩ => opsA P ops n r (fun v t m x => Q (.pan v) ⟨t, m, n, x, r⟩) ops.toList t m x fun t m x => Q .normal ⟨t, m, n, x, r⟩
  | true => match s with
    | ⟨t, m, n, x, r⟩ => chk (edgesB 0 ops.toList) <| chk (mixB P ops.toList) <| opsD P ops n r x (fun v t m => forceNat (lenF ops.toList x) fun x => Q (.pan v) ⟨t, m, n, x, r⟩) ops.toList 0 t m [] fun t m => forceNat (lenF ops.toList x) fun x => Q .normal ⟨t, m, n, x, r⟩
def condW (c : T) (p q : Prop) : Prop :=
  match c with
  | .lit (.bool c) => br c p q
  | _ => False

noncomputable def awp (P : Program) (c : Code) : (Ex → S → Prop) → S → Prop :=
  Code.rec (motive := fun _ => (Ex → S → Prop) → S → Prop)
    (fun Q s => Q .normal s)
    (fun _ ops d Q s => regionW P ops d Q s)
    (fun _ _ ia ib Q s => ia (seqK ib Q) s)
    (fun c _ _ ia ib Q s => condW (ev s.t c) (ia Q s) (ib Q s))
    (fun id _ ib Q s => ib (blockK id Q) s)
    (fun _ ib Q s => LoopW ib Q s)
    (fun _ _ _ _ _ _ _ _ => False)
    (fun id Q s => Q (.exit id) s)
    (fun _ _ _ _ => False)
    (fun _ _ _ => False)
    (fun _ _ _ => False)
    (fun Q s => Q .ret s)
    (fun _ _ _ => False) c

/-- A round more, of a loop whose states are told by `st`. -/
def Nx {α : Type} (st : α → S) (μ : α → Nat) (x : α) (s' : S) : Prop := ∃ m s2, m < μ x ∧ Wk s' s2 ∧ ∃ y, μ y = m ∧ s2 = st y

theorem Nx.intro {α : Type} {st : α → S} {μ : α → Nat} {x : α} {s' : S} (y : α) (h : μ y < μ x) (hw : Wk s' (st y)) : Nx st μ x s' :=
  ⟨_, _, h, hw, y, rfl, rfl⟩

theorem loop_intro {body : (Ex → S → Prop) → S → Prop} {Q : Ex → S → Prop} {s : S} {α : Type} (st : α → S) (μ : α → Nat) (x0 : α) (h0 : Wk s (st x0))
    (hr : ∀ x, body (loopK (Nx st μ x) Q) (st x)) : LoopW body Q s := by
  refine ⟨fun n s => ∃ x, μ x = n ∧ s = st x, ⟨μ x0, st x0, h0, x0, rfl, rfl⟩, ?_⟩
  rintro n s1 ⟨x, rfl, rfl⟩
  exact hr x

theorem LoopW.out {body : (Ex → S → Prop) → S → Prop} {Q : Ex → S → Prop} {s : S} (h : LoopW body Q s) :
    ∃ I : Nat → S → Prop, (∃ n s0, Wk s s0 ∧ I n s0) ∧ ∀ n s1, I n s1 → body (loopK (fun s' => ∃ m s2, m < n ∧ Wk s' s2 ∧ I m s2) Q) s1 := h

attribute [irreducible] LoopW Nx

end Go.AW
