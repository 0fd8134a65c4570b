/-
  The abstract machine: a deterministic big-step interpreter of the loaded Go code over an abstract heap.
  Definitions alone: what it computes. That every run of the machine comes to a related end is proved in the texts behind this one.
-/
import Derived.Orders
import Derived.Below
namespace Go.AM
noncomputable section

/-! ### Tables by number -/
inductive T (α : Type) where
  | leaf
  | node (l : T α) (v : Option α) (r : T α)

def T.get {α : Type} (t : T α) : Nat → Option α :=
  @T.rec α (fun _ => Nat → Option α) (fun _ => none)
    (fun _ v _ gl gr n => @Bool.rec (fun _ => Option α) (@Bool.rec (fun _ => Option α) (gr (Nat.sub (Nat.div n (nat_lit 2)) (nat_lit 1))) (gl (Nat.div n (nat_lit 2))) (Nat.beq (Nat.mod n (nat_lit 2)) (nat_lit 1))) v (Nat.beq n (nat_lit 0))) t

/-- The same tree, brought to its head. -/
def T.look {α β : Type} (t : T α) (k : T α → β) : β :=
  @T.rec α (fun _ => β) (k .leaf) (fun l v r _ _ => k (.node l v r)) t

def T.set {α : Type} (a : α) (f : Nat) : Nat → T α → T α :=
  @Nat.rec (fun _ => Nat → T α → T α) (fun _ t => t)
    (fun _ put n t => @T.rec α (fun _ => T α)
      (@Bool.rec (fun _ => T α) (@Bool.rec (fun _ => T α) ((put (Nat.sub (Nat.div n (nat_lit 2)) (nat_lit 1)) .leaf).look fun x => .node .leaf none x) ((put (Nat.div n (nat_lit 2)) .leaf).look fun x => .node x none .leaf) (Nat.beq (Nat.mod n (nat_lit 2)) (nat_lit 1)))
        (.node .leaf (some a) .leaf) (Nat.beq n (nat_lit 0)))
      (fun l v r _ _ => @Bool.rec (fun _ => T α) (@Bool.rec (fun _ => T α) ((put (Nat.sub (Nat.div n (nat_lit 2)) (nat_lit 1)) r).look fun x => .node l v x) ((put (Nat.div n (nat_lit 2)) l).look fun x => .node x v r) (Nat.beq (Nat.mod n (nat_lit 2)) (nat_lit 1)))
        (.node l (some a) r) (Nat.beq n (nat_lit 0))) t) f

/-! ### Memory -/
inductive Blk where
  /-- a row of cells; 'wr': it may be written -/
  | cells (elem : TypeId) (cs : List Value) (wr : Bool)
  /-- consumed by an append -/
  | dead
  | map (es : List (Value × Value))

structure Mem where
  next : Nat
  t : T Blk

def depth : Nat := 40
def Mem.get (m : Mem) (b : Nat) : Option Blk := m.t.get b
def Mem.put (m : Mem) (b : Nat) (x : Blk) : Mem := { next := m.next, t := T.set x depth b m.t }
def Mem.push (m : Mem) (x : Blk) : Option Mem :=
  bif Nat.ble m.next 1000000000 then some { next := m.next + 1, t := T.set x depth m.next m.t } else none

/-! ### Values -/
/-- A value of one cell that holds no address. -/
def flat0 : Value → Bool
  | .bool _ | .int _ _ | .string _ | .pointer none | .map none | .nilFunc | .nilIface => true
  | .slice none n c => Nat.beq n 0 && Nat.beq c 0
  | _ => false

def flatAll : List Value → Bool
  | [] => true
  | v :: r => flat0 v && flatAll r

def flat : Value → Bool
  | .agg cs => flatAll cs.toList
  | .tuple cs => flatAll cs.toList
  | v => flat0 v

def sameAddr : Addr → Addr → Bool
  | ⟨b, o, none⟩, ⟨b', o', none⟩ => Nat.beq b b' && Nat.beq o o'
  | _, _ => false

def sameInt : Int → Int → Bool
  | .ofNat a, .ofNat b => Nat.beq a b
  | .negSucc a, .negSucc b => Nat.beq a b
  | _, _ => false

def sameBytes : List UInt8 → List UInt8 → Bool
  | [], [] => true
  | a :: x, b :: y => Nat.beq a.toNat b.toNat && sameBytes x y
  | _, _ => false

/-- Equal for sure. -/
def same0 : Value → Value → Bool
  | .bool a, .bool b => a == b
  | .int j a, .int k b => (j == k) && sameInt a b
  | .string a, .string b => sameBytes a.data.toList b.data.toList
  | .pointer none, .pointer none => true
  | .pointer (some a), .pointer (some b) => sameAddr a b
  | .slice none n c, .slice none n' c' => Nat.beq n n' && Nat.beq c c'
  | .slice (some a) n c, .slice (some b) n' c' => sameAddr a b && Nat.beq n n' && Nat.beq c c'
  | .map none, .map none => true
  | .map (some a), .map (some b) => Nat.beq a b
  | .nilFunc, .nilFunc => true
  | .nilIface, .nilIface => true
  | _, _ => false

def sameAll : List Value → List Value → Bool
  | [], [] => true
  | v :: r, u :: s => same0 v u && sameAll r s
  | _, _ => false

def same : Value → Value → Bool
  | .agg a, .agg b => sameAll a.toList b.toList
  | .tuple a, .tuple b => sameAll a.toList b.toList
  | a, b => same0 a b

/-! ### What asks nothing of memory -/
/-- The end of a computation that looks at the program alone. -/
def pureRun {α : Type} (P : Program) : Sem α → Option α
  | .pure a => some a
  | .program k => pureRun P (k P)
  | .mark _ k => pureRun P k
  | _ => none

def sizeAt (P : Program) (t : TypeId) : Option Nat := (P.info? t).map (·.size)
def zeroAt (P : Program) (t : TypeId) : Option Value := (P.info? t).bind fun i => i.zero.bind fun z => bif flat z then some z else none
def aggAt (P : Program) (t : TypeId) : Option Bool :=
  match P.underlying t with
  | some (.struct _) | some (.array _ _) => some true
  | some _ => some false
  | none => none

/-- The first n of a list, all there. -/
def firsts {α : Type} (l : List α) : Nat → Option (List α) :=
  @List.rec α (fun _ => Nat → Option (List α)) (fun n => @Nat.rec (fun _ => Option (List α)) (some []) (fun _ _ => none) n)
    (fun a _ ih n => @Nat.rec (fun _ => Option (List α)) (some []) (fun m _ => @Option.rec (List α) (fun _ => Option (List α)) none (fun q => some (a :: q)) (ih m)) n) l

/-- The k-th and the next n of a list, all there. -/
def cut {α : Type} (k n : Nat) (l : List α) : Option (List α) :=
  @List.rec α (fun _ => Nat → Option (List α)) (fun k => @Nat.rec (fun _ => Option (List α)) (firsts [] n) (fun _ _ => none) k)
    (fun a r ih k => @Nat.rec (fun _ => Option (List α)) (firsts (a :: r) n) (fun m _ => ih m) k) l k

/-- New values at the head. -/
def pasteHead {α : Type} (x : List α) : List α → Option (List α) :=
  @List.rec α (fun _ => List α → Option (List α)) (fun l => some l)
    (fun v _ ih l => @List.rec α (fun _ => Option (List α)) none (fun _ l' _ => @Option.rec (List α) (fun _ => Option (List α)) none (fun q => some (v :: q)) (ih l')) l) x

/-- New values from place k on, all there. -/
def paste {α : Type} (k : Nat) (x l : List α) : Option (List α) :=
  @Nat.rec (fun _ => List α → Option (List α)) (pasteHead x)
    (fun _ ih l => @List.rec α (fun _ => Option (List α)) none (fun v l' _ => @Option.rec (List α) (fun _ => Option (List α)) none (fun q => some (v :: q)) (ih l')) l) k l

def intOf : Value → Option Int
  | .int _ n => some n
  | _ => none

def boundOf (x : Option Value) (dflt : Nat) : Option Nat :=
  match x with
  | none => some dflt
  | some (.int _ (.ofNat n)) => some n
  | _ => none

/-- Slicing; the third number of an abstract slice is the number of cells of an element. -/
def sliceOp (P : Program) (t : TypeId) (x : Value) (lo hi : Option Value) : Option Value :=
  match P.underlying t, x with
  | some (.slice elem), .slice (some ⟨b, o, none⟩) len sz =>
    (sizeAt P elem).bind fun size =>
    (boundOf lo 0).bind fun l => (boundOf hi len).bind fun h =>
    bif Nat.ble h len && Nat.ble l h && Nat.beq size sz then some (.slice (some ⟨b, o + l * size, none⟩) (h - l) sz) else none
  | some (.slice elem), .slice none 0 0 =>
    (sizeAt P elem).bind fun _ => (boundOf lo 0).bind fun l => (boundOf hi 0).bind fun h =>
    bif Nat.beq h 0 && Nat.beq l 0 then some (.slice none 0 0) else none
  | some (.string), .string s =>
    (boundOf lo 0).bind fun l => (boundOf hi s.size).bind fun h =>
    bif Nat.ble h s.size && Nat.ble l h then some (.string (s.extract l h)) else none
  | _, _ => none

/-- Equality where one side is nil. -/
def nilPair (d : TypeDesc) (x y : Value) : Option Bool :=
  match d, x, y with
  | .pointer _, .pointer none, .pointer b => some b.isNone
  | .pointer _, .pointer (some _), .pointer none => some false
  | .slice _, .slice none _ _, .slice b _ _ => some b.isNone
  | .slice _, .slice (some _) _ _, .slice none _ _ => some false
  | .map _ _, .map none, .map b => some b.isNone
  | .map _ _, .map (some _), .map none => some false
  | .func _ _ _, .nilFunc, .nilFunc => some true
  | .func _ _ _, .nilFunc, .func _ _ _ => some false
  | .func _ _ _, .func _ _ _, .nilFunc => some false
  | _, _, _ => none

/-- Equality and its negation where one side is nil. -/
def nilTest (d : TypeDesc) (op : BinOp) (x y : Value) : Option Value :=
  match op with
  | .eql => (nilPair d x y).bind fun b => some (.bool b)
  | .neq => (nilPair d x y).bind fun b => some (.bool !b)
  | _ => none

def valueOf : Option Next → Option Value
  | some (.value v) => bif flat v then some v else none
  | _ => none

def flatOf : Option Value → Option Value
  | some v => bif flat v then some v else none
  | none => none

/-- Each is the value of one cell. -/
def ones : List Value → Bool
  | [] => true
  | .agg _ :: _ | .tuple _ :: _ => false
  | _ :: r => ones r

/-- The operations that ask nothing of memory. -/
def pureOp (P : Program) (ρ : Operand → Value) (o : Oper) : Option Value :=
  match o.op with
  | .move x | .assign x => some (ρ x)
  | .pick c a b =>
    match ρ c with
    | .bool true => some (ρ a)
    | .bool false => some (ρ b)
    | _ => none
  | .nilCheck x =>
    match ρ x with
    | .pointer (some a) => some (.pointer (some a))
    | _ => none
  | .binOp op t x y _ =>
    bif flat (ρ x) && flat (ρ y) then valueOf (pureRun P (execOp ρ o)) else
    (P.underlying t).bind fun d => nilTest d op (ρ x) (ρ y)
  | .unOp _ _ x => bif flat (ρ x) then valueOf (pureRun P (execOp ρ o)) else none
  | .convert _ _ x => bif flat (ρ x) then valueOf (pureRun P (execOp ρ o)) else none
  | .fieldAddr t x f => pureRun P (Instr.fieldAt t (ρ x) f)
  | .field t x f => pureRun P (Instr.field t (ρ x) f)
  | .indexAddr t x ix => pureRun P (Instr.indexAt t (ρ x) (ρ ix))
  | .index t x ix => pureRun P (Instr.index t (ρ x) (ρ ix))
  | .extract x ix => pureRun P (Instr.extract (ρ x) ix)
  | .makeFunc (.func f) first captured => some (.func (.func f) (first.map ρ) (captured.map ρ))
  | .build t parts => (zeroAt P t).bind fun _ => pureRun P (Instr.build t (parts.map fun (i, x) => (i, ρ x)))
  | .slice t x lo hi none => sliceOp P t (ρ x) (lo.map ρ) (hi.map ρ)
  | .call { callee := .builtin .len, args, argTypes } =>
    match args.toList with
    | [x] => pureRun P (Builtin.len_ argTypes o.type #[ρ x])
    | _ => none
  | .call { callee := .builtin .max, args, argTypes } =>
    match args.toList with
    | [x, y] => bif flat (ρ x) && flat (ρ y) then flatOf (pureRun P (Builtin.max_ argTypes o.type #[ρ x, ρ y])) else none
    | _ => none
  | .call { callee := .builtin .min, args, argTypes } =>
    match args.toList with
    | [x, y] => bif flat (ρ x) && flat (ρ y) then flatOf (pureRun P (Builtin.min_ argTypes o.type #[ρ x, ρ y])) else none
    | _ => none
  | _ => none

/-! ### What makes one block -/
def zeroCells (P : Program) (elem : TypeId) (n : Nat) : Option (List Value) :=
  (sizeAt P elem).bind fun size => bif Nat.beq (n * size) 0 then some [] else
  (zeroAt P elem).bind fun z => some ((Array.range (n * size)).map (z.cells[· % z.cells.size]!)).toList

def newOp (P : Program) (ρ : Operand → Value) (o : Oper) : Option (Blk × (Nat → Value)) :=
  match o.op with
  | .alloc elem => (zeroAt P elem).bind fun z => some (.cells elem z.cells.toList true, fun b => .pointer (some ⟨b, 0, none⟩))
  | .box elem v => some (.cells elem (ρ v).cells.toList true, fun b => .pointer (some ⟨b, 0, none⟩))
  | .buildSlice t len parts =>
    match P.underlying t with
    | some (.slice elem) => (sizeAt P elem).bind fun size => (zeroCells P elem len).bind fun z =>
      bif Nat.ble (len * size) 1000000 then
        (Instr.fill (fun i => some (i * size, size)) z.toArray (parts.map fun (i, x) => (i, ρ x)).toList).bind fun cs =>
        some (.cells elem cs.toList true, fun b => .slice (some ⟨b, 0, none⟩) len size)
      else none
    | _ => none
  | .makeSlice t l c =>
    match P.underlying t, ρ l, ρ c with
    | some (.slice elem), .int _ (.ofNat l), .int _ (.ofNat c) =>
      (P.info? elem).bind fun i => bif Nat.ble l c && Nat.ble c 1000000 && Nat.ble i.bytes 100000 then
        (zeroAt P elem).bind fun _ => (zeroCells P elem l).bind fun z => some (.cells elem z true, fun b => .slice (some ⟨b, 0, none⟩) l i.size)
      else none
    | _, _, _ => none
  | .makeMap t r =>
    match P.underlying t, r with
    | some (.map _ _), none => some (.map [], fun b => .map (some b))
    | some (.map _ _), some r => (intOf (ρ r)).bind fun _ => some (.map [], fun b => .map (some b))
    | _, _ => none
  | _ => none

/-! ### What reads memory -/
def loadAt (P : Program) (m : Mem) (t : TypeId) (a : Value) : Option Value :=
  match a with
  | .pointer (some ⟨b, o, none⟩) =>
    match m.get b with
    | some (.cells _ cs _) =>
      (aggAt P t).bind fun agg => bif agg then
        (sizeAt P t).bind fun n => (cut o n cs).bind fun l => some (.agg l.toArray)
      else
        match cut o 1 cs with
        | some [v] => some v
        | _ => none
    | _ => none
  | _ => none

/-- Where a key stands, by the key type's own comparison; none: the keys are of a kind that is not served. -/
def findKey (kind : TypeDesc) (k : Value) : List (Value × Value) → Option (Option Value)
  | [] => some none
  | e :: es =>
    match Instr.sameNow kind k e.1 with
    | some true => some (some e.2)
    | some false => findKey kind k es
    | none => none

def storeKey (kind : TypeDesc) (k v : Value) : List (Value × Value) → Option (List (Value × Value))
  | [] => some [(k, v)]
  | e :: es =>
    match Instr.sameNow kind k e.1 with
    | some true => some ((k, v) :: es)
    | some false => (storeKey kind k v es).bind fun l => some (e :: l)
    | none => none

def dropKey (kind : TypeDesc) (k : Value) : List (Value × Value) → Option (List (Value × Value))
  | [] => some []
  | e :: es =>
    match Instr.sameNow kind k e.1 with
    | some true => some es
    | some false => (dropKey kind k es).bind fun l => some (e :: l)
    | none => none

/-- Keys are whole numbers, strings or bools. -/
def keyKind (P : Program) (t : TypeId) (k : Value) : Option TypeDesc :=
  match P.underlying t, k with
  | some (.int q), .int q' _ => bif q == q' then some (.int q) else none
  | some .string, .string _ => some .string
  | some .bool, .bool _ => some .bool
  | _, _ => none

def entriesOf (m : Mem) (x : Value) : Option (List (Value × Value)) :=
  match x with
  | .map none => some []
  | .map (some r) =>
    match m.get r with
    | some (.map es) => some es
    | _ => none
  | _ => none

def lookupAt (P : Program) (m : Mem) (t : TypeId) (x k : Value) (ok : Bool) : Option Value :=
  match P.underlying t with
  | some (.map key elem) =>
    (keyKind P key k).bind fun kind => (entriesOf m x).bind fun es => (findKey kind k es).bind fun r =>
    match r with
    | some v => some (bif ok then .tuple #[v, .bool true] else v)
    | none => (zeroAt P elem).bind fun z => some (bif ok then .tuple #[z, .bool false] else z)
  | _ => none

def byteOf : Value → Option UInt8
  | .int .u8 (.ofNat n) => some (UInt8.ofNat n)
  | _ => none

def bytesOf : List Value → Option (List UInt8)
  | [] => some []
  | v :: r => (byteOf v).bind fun b => (bytesOf r).bind fun l => some (b :: l)

/-- Slicing an array by its address; the array must lie in its block. -/
def sliceArr (P : Program) (m : Mem) (t : TypeId) (x : Value) (lo hi : Option Value) : Option Value :=
  match P.underlying t, x with
  | some (.array n elem), .pointer (some ⟨b, o, none⟩) =>
    match m.get b with
    | some (.cells _ cs _) =>
      (sizeAt P elem).bind fun size => (boundOf lo 0).bind fun l => (boundOf hi n).bind fun h =>
      bif Nat.ble h n && Nat.ble l h && Nat.ble (o + n * size) cs.length then some (.slice (some ⟨b, o + l * size, none⟩) (h - l) size) else none
    | _ => none
  | _, _ => none

def readOp (P : Program) (ρ : Operand → Value) (m : Mem) (o : Oper) : Option Value :=
  match o.op with
  | .load t a => loadAt P m t (ρ a)
  | .lookup t x k ok => lookupAt P m t (ρ x) (ρ k) ok
  | .slice t x lo hi none => sliceArr P m t (ρ x) (lo.map ρ) (hi.map ρ)
  | .convert src dst x =>
    match P.underlying src, P.underlying dst, ρ x with
    | some (.slice e), some .string, .slice (some ⟨b, k, none⟩) len sz =>
      match P.underlying e, m.get b with
      | some (.int .u8), some (.cells _ cs _) =>
        bif Nat.beq sz 1 then (cut k len cs).bind fun l => (bytesOf l).bind fun s => some (.string ⟨s.toArray⟩) else none
      | _, _ => none
    | _, _, _ => none
  | .call { callee := .builtin .len, args, argTypes } =>
    match args.toList, argTypes[0]?.bind P.underlying with
    | [x], some (.map _ _) => (entriesOf m (ρ x)).bind fun es => some (goInt es.length)
    | _, _ => none
  | _ => none

/-! ### What writes memory -/
def storeAt (P : Program) (m : Mem) (t : TypeId) (a v : Value) : Option Mem :=
  match a with
  | .pointer (some ⟨b, o, none⟩) =>
    match m.get b with
    | some (.cells e cs true) =>
      (sizeAt P t).bind fun n => bif Nat.beq v.cells.size n && ones v.cells.toList then
        (paste o v.cells.toList cs).bind fun cs' => some (m.put b (.cells e cs' true))
      else none
    | _ => none
  | _ => none

/-- The first n elements of what is appended, as cells. -/
def sourceCells (m : Mem) (size n : Nat) (x : Value) : Option (List Value) :=
  match x with
  | .slice none 0 0 => some []
  | .slice (some ⟨b, o, none⟩) _ sz =>
    match m.get b with
    | some (.cells _ cs _) => bif Nat.beq sz size then cut o (n * size) cs else none
    | _ => none
  | .string s => bif Nat.beq size 1 then some ((s.extract 0 n).data.toList.map fun b => .int .u8 b.toNat) else none
  | _ => none

def lenOf : Value → Option Nat
  | .slice _ n _ => some n
  | .string s => some s.size
  | _ => none

def appendAt (P : Program) (m : Mem) (argTypes : Array TypeId) (s x : Value) : Option (Value × Mem) :=
  match (argTypes[0]?).bind P.underlying, (argTypes[1]?).bind P.underlying with
  | some (.slice _), some (.int _) => none
  | some (.slice elem), some _ =>
    (lenOf x).bind fun n => (P.info? elem).bind fun i => (sourceCells m i.size n x).bind fun new => (zeroAt P elem).bind fun z =>
    bif Nat.ble n 1000000 && Nat.ble i.bytes 100000 && ones new && Nat.beq z.cells.size i.size then
      match s with
      | .slice none 0 0 =>
        bif Nat.beq n 0 then some (s, m) else
        (m.push (.cells elem new true)).bind fun m' => some (.slice (some ⟨m.next, 0, none⟩) n i.size, m')
      | .slice (some ⟨b, o, none⟩) len sz =>
        bif Nat.beq n 0 then some (s, m) else
        match m.get b with
        | some (.cells _ cs true) =>
          bif Nat.beq sz i.size && Nat.ble len 1000000 then
            (cut o (len * i.size) cs).bind fun old => ((m.put b .dead).push (.cells elem (old ++ new) true)).bind fun m' =>
            some (.slice (some ⟨m.next, 0, none⟩) (len + n) i.size, m')
          else none
        | _ => none
      | _ => none
    else none
  | _, _ => none

def copyAt (P : Program) (m : Mem) (argTypes : Array TypeId) (d x : Value) : Option (Value × Mem) :=
  match (argTypes[0]?).bind P.underlying with
  | some (.slice elem) =>
    (lenOf d).bind fun dn => (lenOf x).bind fun xn => (sizeAt P elem).bind fun size =>
    (sourceCells m size (Nat.min xn dn) x).bind fun new =>
    match d with
    | .slice none 0 0 => some (goInt (Nat.min xn dn), m)
    | .slice (some ⟨b, o, none⟩) _ sz =>
      match m.get b with
      | some (.cells e cs true) => bif Nat.beq sz size && ones new then (paste o new cs).bind fun cs' => some (goInt (Nat.min xn dn), m.put b (.cells e cs' true)) else none
      | _ => none
    | _ => none
  | _ => none

def writeOp (P : Program) (ρ : Operand → Value) (m : Mem) (o : Oper) : Option (Value × Mem) :=
  match o.op with
  | .store t a v => (storeAt P m t (ρ a) (ρ v)).bind fun m' => some (undef, m')
  | .mapUpdate t x k v | .insert t x k v =>
    match P.underlying t, ρ x with
    | some (.map key _), .map (some r) =>
      match m.get r with
      | some (.map es) => (keyKind P key (ρ k)).bind fun kind => (storeKey kind (ρ k) (ρ v) es).bind fun es' => some (undef, m.put r (.map es'))
      | _ => none
    | _, _ => none
  | .call { callee := .builtin .append, args, argTypes } =>
    match args.toList with
    | [s, x] => appendAt P m argTypes (ρ s) (ρ x)
    | _ => none
  | .call { callee := .builtin .copy, args, argTypes } =>
    match args.toList with
    | [d, x] => copyAt P m argTypes (ρ d) (ρ x)
    | _ => none
  | .call { callee := .builtin .delete, args, argTypes } =>
    match args.toList, (argTypes[0]?).bind P.underlying with
    | [x, k], some (.map key _) =>
      match ρ x with
      | .map (some r) =>
        match m.get r with
        | some (.map es) => (keyKind P key (ρ k)).bind fun kind => (dropKey kind (ρ k) es).bind fun es' => some (.tuple #[], m.put r (.map es'))
        | _ => none
      | _ => none
    | _, _ => none
  | _ => none

/-! ### Calls -/
def callOp (P : Program) (ρ : Operand → Value) (o : Oper) : Option (FuncId × Array Value) :=
  match o.op with
  | .call { callee := .value f, args, .. } =>
    match ρ f with
    | .func (.func g) first captured =>
      match P.funcs[g]? with
      | some fn => bif fn.body.isSome && !(fn.name == "runtime.NumGoroutine") then some (g, first ++ args.map ρ ++ captured) else none
      | none => none
    | _ => none
  | _ => none

/-! ### The kinds of operations -/
inductive Kind where
  | pure | read | new | write | call | bad
  deriving DecidableEq

def kindOf (P : Program) (o : Oper) : Kind :=
  match o.op with
  | .load .. | .lookup .. => .read
  | .convert src dst _ =>
    match P.underlying src, P.underlying dst with
    | some (.slice _), some .string => .read
    | _, _ => .pure
  | .slice t .. => (match P.underlying t with | some (.array _ _) => .read | _ => .pure)
  | .alloc .. | .box .. | .buildSlice .. | .makeSlice .. | .makeMap .. => .new
  | .store .. | .mapUpdate .. | .insert .. => .write
  | .call { callee := .builtin b, argTypes, .. } =>
    match b with
    | .len => (match (argTypes[0]?).bind P.underlying with | some (.map _ _) => .read | _ => .pure)
    | .max | .min => .pure
    | .append | .copy | .delete => .write
    | _ => .bad
  | .call { callee := .value _, .. } => .call
  | .move .. | .assign .. | .pick .. | .nilCheck .. | .binOp .. | .unOp .. | .fieldAddr .. | .field .. | .indexAddr .. | .index .. | .extract .. | .makeFunc .. | .build .. => .pure
  | _ => .bad

/-! ### Runs -/
inductive Ex where
  | normal | exit (id : Nat) | ret

structure St where
  tm : T Value
  mem : Mem

inductive Task where
  | code (c : Code) (s : St)
  | call (f : FuncId) (args : Array Value) (m : Mem)

inductive Res where
  | code (e : Ex) (s : St)
  | call (v : Value) (m : Mem)

def evalAt (tm : T Value) : Operand → Value
  | .tmp t => (tm.get t).getD undef
  | .const v => v
  | .global g => .pointer (some ⟨g, 0, none⟩)
  | .func f => .func (.func f) #[] #[]

def putAt (tm : T Value) (dst : Option Tmp) (v : Value) : T Value :=
  match dst with
  | some d => T.set v depth d tm
  | none => tm

def wantedAt (ops : Array Oper) (o : Oper) (tm : T Value) : Bool :=
  match o.guard with
  | none => true
  | some (j, want) =>
    match ((ops[j]?).bind (·.dst)).bind tm.get with
    | some (.bool b) => b == want
    | _ => false

/-- One operation. -/
def opStep (P : Program) (rec : Task → Option Res) (ops : Array Oper) (o : Oper) (s : St) : Option St :=
  bif wantedAt ops o s.tm then
    let ρ := evalAt s.tm
    match kindOf P o with
    | .pure => (pureOp P ρ o).bind fun v => some ⟨putAt s.tm o.dst v, s.mem⟩
    | .read => (readOp P ρ s.mem o).bind fun v => some ⟨putAt s.tm o.dst v, s.mem⟩
    | .new => (newOp P ρ o).bind fun (x, f) => (s.mem.push x).bind fun m => some ⟨putAt s.tm o.dst (f s.mem.next), m⟩
    | .write => (writeOp P ρ s.mem o).bind fun (v, m) => some ⟨putAt s.tm o.dst v, m⟩
    | .call => (callOp P ρ o).bind fun (f, args) =>
      match rec (.call f args s.mem) with
      | some (.call v m) => some ⟨putAt s.tm o.dst v, m⟩
      | _ => none
    | .bad => none
  else some ⟨putAt s.tm o.dst undef, s.mem⟩

def opsRun (P : Program) (rec : Task → Option Res) (ops : Array Oper) : List Oper → St → Option St
  | [], s => some s
  | o :: r, s => (opStep P rec ops o s).bind fun s' => opsRun P rec ops r s'

/-- The states ahead of each operation, and the last. -/
def opsTrace (P : Program) (rec : Task → Option Res) (ops : Array Oper) : List Oper → St → Option (List St × St)
  | [], s => some ([], s)
  | o :: r, s => (opStep P rec ops o s).bind fun s' => (opsTrace P rec ops r s').bind fun x => some (s :: x.1, x.2)

/-- Pairs (a read, a write or call) of a region whose order is open. -/
def openPairs (P : Program) (ops : Array Oper) : List (Nat × Nat) :=
  let b := Region.before ops
  let ks := ops.toList.map (kindOf P)
  let js := (ks.zipIdx.filter fun x => decide (x.1 = .read)).map (·.2)
  let ws := (ks.zipIdx.filter fun x => decide (x.1 = .write) || decide (x.1 = .call)).map (·.2)
  js.flatMap fun j => (ws.filter fun w => !(b.getD (max j w) 0).testBit (min j w)).map fun w => (j, w)

/-- It holds addresses of blocks below n alone. -/
def inside0 (n : Nat) : Value → Bool
  | .pointer (some a) => Nat.blt a.block n
  | .slice (some a) _ _ => Nat.blt a.block n
  | .map (some b) => Nat.blt b n
  | v => flat0 v

def insideAll (n : Nat) : List Value → Bool
  | [] => true
  | v :: r => inside0 n v && insideAll n r

def inside (n : Nat) : Value → Bool
  | .agg cs => insideAll n cs.toList
  | .tuple cs => insideAll n cs.toList
  | v => inside0 n v

/-- A read comes to the same on both sides of a write whose order is open. -/
def pairOk (P : Program) (ops : Array Oper) (sts : List St) (last : St) (x : Nat × Nat) : Bool :=
  match ops[x.1]?, ops[x.2]?, sts[x.1]?, sts[x.2]?, (sts ++ [last])[x.2 + 1]? with
  | some o, some w, some sj, some sw, some sw' =>
    !wantedAt ops o sj.tm || !wantedAt ops w sw.tm ||
    match readOp P (evalAt sj.tm) sj.mem o, readOp P (evalAt sj.tm) (bif Nat.blt x.2 x.1 then sw.mem else sw'.mem) o with
    | some a, some b => same a b && inside sj.mem.next a
    | _, _ => false
  | _, _, _, _, _ => false

def drawnRun (P : Program) (rec : Task → Option Res) (ops : Array Oper) (s : St) : Option St :=
  match openPairs P ops with
  | [] => opsRun P rec ops ops.toList s
  | ps => (opsTrace P rec ops ops.toList s).bind fun x => bif ps.all (pairOk P ops x.1 x.2) then some x.2 else none

def enterAt (args : List Value) (k : Nat) (tm : T Value) : T Value :=
  match args with
  | [] => tm
  | v :: r => enterAt r (k + 1) (T.set v depth k tm)

def resultsAt (P : Program) (tm : T Value) (m : Mem) : List ResultVar → Option (List Value)
  | [] => some []
  | .tmp t :: r => (resultsAt P tm m r).bind fun l => some ((tm.get t).getD undef :: l)
  | .cell a t :: r => (loadAt P m t ((tm.get a).getD undef)).bind fun v => (resultsAt P tm m r).bind fun l => some (v :: l)

def leave (P : Program) (fn : Func) (s : St) : Option Res :=
  (resultsAt P s.tm s.mem fn.results.toList).bind fun vs =>
  match vs with
  | [v] => some (.call v s.mem)
  | vs => some (.call (.tuple vs.toArray) s.mem)

def step (P : Program) (rec : Task → Option Res) : Task → Option Res
  | .code c s =>
    match c with
    | .skip | .label _ => some (.code .normal s)
    | .region _ ops draw => (bif draw then drawnRun P rec ops s else opsRun P rec ops ops.toList s).bind fun s' => some (.code .normal s')
    | .seq a b =>
      match rec (.code a s) with
      | some (.code .normal s') => rec (.code b s')
      | r => r
    | .cond c a b =>
      match evalAt s.tm c with
      | .bool true => rec (.code a s)
      | .bool false => rec (.code b s)
      | _ => none
    | .block id c =>
      match rec (.code c s) with
      | some (.code (.exit k) s') => bif Nat.beq k id then some (.code .normal s') else some (.code (.exit k) s')
      | r => r
    | .loop c =>
      match rec (.code c s) with
      | some (.code .normal s') => rec (.code (.loop c) s')
      | r => r
    | .exit id => some (.code (.exit id) s)
    | .ret => some (.code .ret s)
    | _ => none
  | .call f args m =>
    match P.funcs[f]? with
    | some fn =>
      match fn.body with
      | some c =>
        bif Nat.ble args.size 1000000 then
          match rec (.code c ⟨enterAt args.toList 0 .leaf, m⟩) with
          | some (.code .normal s) => leave P fn s
          | some (.code .ret s) => leave P fn s
          | _ => none
        else none
      | none => none
    | none => none

def run (P : Program) : Nat → Task → Option Res
  | 0 => fun _ => none
  | n + 1 => step P (run P n)

end
end Go.AM
