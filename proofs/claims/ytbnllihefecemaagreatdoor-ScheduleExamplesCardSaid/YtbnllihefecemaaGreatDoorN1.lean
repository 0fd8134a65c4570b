/-
  The nice machine: the loaded code brought to instructions whose types are resolved, and its deterministic run.
  Definitions alone. The text behind this one shows that what this machine ends with, the abstract machine ends with.
-/
import Derived.Test.YtbnllihefecemaaGreatDoorAm2
namespace Go.AM
noncomputable section

/-! ### Ways to a place of a table -/
inductive Way where
  | stop
  | here
  | left (w : Way)
  | right (w : Way)

def way (f : Nat) : Nat → Way :=
  @Nat.rec (fun _ => Nat → Way) (fun _ => .stop)
    (fun _ ih n => @Bool.rec (fun _ => Way) (@Bool.rec (fun _ => Way) (.right (ih (Nat.sub (Nat.div n (nat_lit 2)) (nat_lit 1)))) (.left (ih (Nat.div n (nat_lit 2)))) (Nat.beq (Nat.mod n (nat_lit 2)) (nat_lit 1))) .here (Nat.beq n (nat_lit 0))) f

def Way.get {α : Type} (w : Way) : T α → Option α :=
  @Way.rec (fun _ => T α → Option α) (fun _ => none)
    (fun t => @T.rec α (fun _ => Option α) none (fun _ v _ _ _ => v) t)
    (fun _ ih t => @T.rec α (fun _ => (T α → Option α) → Option α) (fun _ => none) (fun l _ _ _ _ ih => ih l) t ih)
    (fun _ ih t => @T.rec α (fun _ => (T α → Option α) → Option α) (fun _ => none) (fun _ _ r _ _ ih => ih r) t ih) w

/-- A value put at its place; the new nodes are handed on as they are made. -/
def Way.setK {α : Type} (w : Way) : α → T α → (T α → T α) → T α :=
  @Way.rec (fun _ => α → T α → (T α → T α) → T α) (fun _ t k => k t)
    (fun a t k => @T.rec α (fun _ => α → (T α → T α) → T α) (fun a k => k (.node .leaf (some a) .leaf)) (fun l _ r _ _ a k => k (.node l (some a) r)) t a k)
    (fun _ ih a t k => @T.rec α (fun _ => (T α → (T α → T α) → T α) → (T α → T α) → T α) (fun ih k => ih .leaf fun x => k (.node x none .leaf)) (fun l v r _ _ ih k => ih l fun x => k (.node x v r)) t (ih a) k)
    (fun _ ih a t k => @T.rec α (fun _ => (T α → (T α → T α) → T α) → (T α → T α) → T α) (fun ih k => ih .leaf fun x => k (.node .leaf none x)) (fun l v r _ _ ih k => ih r fun x => k (.node l v x)) t (ih a) k) w

def Way.set {α : Type} (w : Way) (a : α) (t : T α) : T α := w.setK a t fun x => x

def orUndef (x : Option Value) : Value := @Option.rec Value (fun _ => Value) undef (fun v => v) x

/-- An operand's value. -/
def ev (tm : T Value) (x : Operand) : Value :=
  @Operand.rec (fun _ => T Value → Value) (fun t tm => orUndef ((way depth t).get tm)) (fun v _ => v) (fun g _ => .pointer (some ⟨g, 0, none⟩)) (fun f _ => .func (.func f) #[] #[]) x tm

def evs (tm : T Value) (xs : List Operand) : List Value :=
  @List.rec Operand (fun _ => T Value → List Value) (fun _ => []) (fun x _ ih tm => ev tm x :: ih tm) xs tm

/-! ### Instructions -/
inductive Ins where
  | mov (x : Operand)
  | pick (c a b : Operand)
  | nilCheck (x : Operand)
  | bin (op : BinOp) (x y : Operand)
  | eqb (neg : Bool) (x y : Operand)
  | nilt (d : TypeDesc) (op : BinOp) (x y : Operand)
  | not (x : Operand)
  | conv (k : IntKind) (x : Operand)
  | fieldAddr (off : Nat) (x : Operand)
  | part (n : Option Nat) (off : Nat) (x : Operand)
  | indexAddr (size : Nat) (x i : Operand)
  | indexArr (len size : Nat) (x i : Operand)
  | indexStr (x i : Operand)
  | extract (x : Operand) (n : Nat)
  | mkfunc (f : FuncId) (first captured : List Operand)
  | build (zero : List Value) (parts : List (Nat × Nat × Operand))
  | slice (size : Nat) (x : Operand) (lo hi : Option Operand)
  | lenS (x : Operand)
  | lenStr (x : Operand)
  | load1 (x : Operand)
  | loadN (n : Nat) (x : Operand)
  | lookup (d : TypeDesc) (zero : Value) (ok : Bool) (x k : Operand)
  | lenMap (x : Operand)
  | b2s (x : Operand)
  | alloc (elem : TypeId) (zero : List Value)
  | box (elem : TypeId) (x : Operand)
  | bslice (elem : TypeId) (len size : Nat) (zero : List Value) (parts : List (Nat × Nat × Operand))
  | mkslice (elem : TypeId) (size : Nat) (zero : List Value) (l c : Operand)
  | mkmap
  | store (n : Nat) (x v : Operand)
  | mapset (d : TypeDesc) (x k v : Operand)
  | append (elem : TypeId) (size : Nat) (x y : Operand)
  | copy (size : Nat) (x y : Operand)
  | delete (d : TypeDesc) (x k : Operand)
  | call (f : FuncId) (args : List Operand)
  | callv (f : Operand) (args : List Operand)
  | gen (o : Oper)

/-! ### Whole numbers -/
def kindNo (k : IntKind) : Nat := @IntKind.rec (fun _ => Nat) 0 1 2 3 4 5 6 7 k
def half (k : IntKind) : Nat := @IntKind.rec (fun _ => Nat) (nat_lit 128) (nat_lit 32768) (nat_lit 2147483648) (nat_lit 9223372036854775808) (nat_lit 128) (nat_lit 32768) (nat_lit 2147483648) (nat_lit 9223372036854775808) k

def wrapN (k : IntKind) (n : Nat) : Int := @Bool.rec (fun _ => IntKind → Nat → Int) (fun k n => k.wrap (.ofNat n)) (fun _ n => .ofNat n) (Nat.blt n (half k)) k n

/-- By the signs of two numbers. -/
def signs {α : Type} (f : Nat → Nat → IntKind → α) (g : Int → Int → IntKind → α) (a b : Int) (k : IntKind) : α :=
  @Int.rec (fun _ => Int → IntKind → α)
    (fun a b k => @Int.rec (fun _ => Nat → IntKind → α) (fun b a k => f a b k) (fun b a k => g (.ofNat a) (.negSucc b) k) b a k)
    (fun a b k => g (.negSucc a) b k) a b k

def addI : Int → Int → IntKind → Option Value := signs (fun a b k => some (.int k (wrapN k (Nat.add a b)))) (fun a b k => some (.int k (k.wrap (a + b))))
def subN (a b : Nat) (k : IntKind) : Int := @Bool.rec (fun _ => Nat → Nat → IntKind → Int) (fun a b k => k.wrap (.ofNat a - .ofNat b)) (fun a b k => wrapN k (Nat.sub a b)) (Nat.ble b a) a b k
def subI : Int → Int → IntKind → Option Value := signs (fun a b k => some (.int k (subN a b k))) (fun a b k => some (.int k (k.wrap (a - b))))
def mulI : Int → Int → IntKind → Option Value := signs (fun a b k => some (.int k (wrapN k (Nat.mul a b)))) (fun a b k => some (.int k (k.wrap (a * b))))
def eqI (a b : Int) : Bool :=
  @Int.rec (fun _ => Int → Bool) (fun a b => @Int.rec (fun _ => Nat → Bool) (fun b a => Nat.beq a b) (fun _ _ => false) b a)
    (fun a b => @Int.rec (fun _ => Nat → Bool) (fun _ _ => false) (fun b a => Nat.beq a b) b a) a b
def ltI (a b : Int) : Bool :=
  @Int.rec (fun _ => Int → Bool) (fun a b => @Int.rec (fun _ => Nat → Bool) (fun b a => Nat.blt a b) (fun _ _ => false) b a)
    (fun a b => @Int.rec (fun _ => Nat → Bool) (fun _ _ => true) (fun b a => Nat.blt b a) b a) a b
def notB (b : Bool) : Bool := @Bool.rec (fun _ => Bool) true false b

def someBool (b : Bool) : Option Value := some (.bool b)
def bitsI (op : BinOp) (a b : Int) (k : IntKind) : Option Value := pureRun default (Op.intBits op k a b)
def divI (op : BinOp) (a b : Int) (k : IntKind) : Option Value := pureRun default (Op.intDiv op k a b)
def noBin (_ _ : Int) (_ : IntKind) : Option Value := none

/-- An operation on two whole numbers of a kind. -/
def binI (op : BinOp) : Int → Int → IntKind → Option Value :=
  @BinOp.rec (fun _ => Int → Int → IntKind → Option Value) addI subI mulI (divI .quo) (divI .rem) (bitsI .and) (bitsI .or) (bitsI .xor) noBin noBin (bitsI .andNot)
    (fun a b _ => someBool (eqI a b)) (fun a b _ => someBool (notB (eqI a b))) (fun a b _ => someBool (ltI a b)) (fun a b _ => someBool (notB (ltI b a))) (fun a b _ => someBool (ltI b a)) (fun a b _ => someBool (notB (ltI a b))) op

def bin2 (op : BinOp) (v w : Value) : Option Value :=
  match v with
  | .int k a =>
    match w with
    | .int k' b => @Bool.rec (fun _ => BinOp → Int → Int → IntKind → Option Value) (fun _ _ _ _ => none) binI (Nat.beq (kindNo k) (kindNo k')) op a b k
    | _ => none
  | _ => none

def eqb2 (neg : Bool) (v w : Value) : Option Value :=
  match v with
  | .bool a =>
    match w with
    | .bool b => some (.bool (Bool.xor neg (Bool.xor a (notB b))))
    | _ => none
  | _ => none

def not1 (v : Value) : Option Value :=
  match v with
  | .bool a => some (.bool (notB a))
  | _ => none

def convI (k : IntKind) (n : Int) : Int := @Int.rec (fun _ => IntKind → Int) (fun n k => wrapN k n) (fun n k => k.wrap (.negSucc n)) n k
def conv1 (k : IntKind) (v : Value) : Option Value :=
  match v with
  | .int _ n => some (.int k (convI k n))
  | _ => none

/-! ### Addresses and parts -/
def at1 (a : Addr) (f : Nat → Nat → Option Value) : Option Value :=
  match a with
  | ⟨b, o, none⟩ => f b o
  | _ => none

def fieldAddr1 (off : Nat) (v : Value) : Option Value :=
  match v with
  | .pointer (some ⟨b, o, none⟩) => some (.pointer (some ⟨b, Nat.add o off, none⟩))
  | _ => none

def nth {α : Type} (l : List α) (k : Nat) : Option α :=
  @List.rec α (fun _ => Nat → Option α) (fun _ => none) (fun a _ ih k => @Nat.rec (fun _ => α → (Nat → Option α) → Option α) (fun a _ => some a) (fun k _ _ ih => ih k) k a ih) l k

def aggOf (l : Option (List Value)) : Option Value := @Option.rec (List Value) (fun _ => Option Value) none (fun l => some (.agg l.toArray)) l

def part1 (n : Option Nat) (off : Nat) (v : Value) : Option Value :=
  match v with
  | .agg cs => @Option.rec Nat (fun _ => Nat → List Value → Option Value) (fun off cs => nth cs off) (fun n off cs => aggOf (cut off n cs)) n off cs.toList
  | _ => none

def natI (n : Int) : Option Nat := @Int.rec (fun _ => Option Nat) (fun n => some n) (fun _ => none) n

def indexAddr2 (size : Nat) (v i : Value) : Option Value :=
  match v with
  | .slice (some ⟨b, o, none⟩) len _ =>
    match i with
    | .int _ (.ofNat n) => @Bool.rec (fun _ => Option Value) none (some (.pointer (some ⟨b, Nat.add o (Nat.mul n size), none⟩))) (Nat.blt n len)
    | _ => none
  | _ => none

def indexArr2 (len size : Nat) (v i : Value) : Option Value :=
  match v with
  | .pointer (some ⟨b, o, none⟩) =>
    match i with
    | .int _ (.ofNat n) => @Bool.rec (fun _ => Option Value) none (some (.pointer (some ⟨b, Nat.add o (Nat.mul n size), none⟩))) (Nat.blt n len)
    | _ => none
  | _ => none

def byteV (x : Option UInt8) : Option Value := @Option.rec UInt8 (fun _ => Option Value) none (fun b => some (.int .u8 (.ofNat b.toNat))) x

def indexStr2 (v i : Value) : Option Value :=
  match v with
  | .string s =>
    match i with
    | .int _ (.ofNat n) => byteV (nth s.data.toList n)
    | _ => none
  | _ => none

def extract1 (v : Value) (n : Nat) : Option Value :=
  match v with
  | .tuple vs => nth vs.toList n
  | _ => none

/-- Parts laid into cells. -/
def lay (tm : T Value) (parts : List (Nat × Nat × Operand)) (zero : List Value) : Option (List Value) :=
  @List.rec (Nat × Nat × Operand) (fun _ => T Value → List Value → Option (List Value)) (fun _ z => some z)
    (fun p _ ih tm z => bif Nat.beq (ev tm p.2.2).cells.toList.length p.2.1 then (paste p.1 (ev tm p.2.2).cells.toList z).bind (ih tm) else none) parts tm zero

def bound1 (tm : T Value) (x : Option Operand) (dflt : Nat) : Option Nat :=
  match x with
  | none => some dflt
  | some x =>
    match ev tm x with
    | .int _ (.ofNat n) => some n
    | _ => none

def slice3 (size : Nat) (v : Value) (lo : Option Nat) (hi : Nat → Option Nat) : Option Value :=
  match v with
  | .slice (some ⟨b, o, none⟩) len sz =>
    lo.bind fun l => (hi len).bind fun h =>
    bif Nat.ble h len && Nat.ble l h && Nat.beq size sz then some (.slice (some ⟨b, o + l * size, none⟩) (h - l) sz) else none
  | .slice none 0 0 =>
    lo.bind fun l => (hi 0).bind fun h => bif Nat.beq h 0 && Nat.beq l 0 then some (.slice none 0 0) else none
  | _ => none

def len1 (v : Value) : Option Value :=
  match v with
  | .slice _ n _ => some (.int .i64 (.ofNat n))
  | _ => none

/-- The bytes of a text, counted. -/
def lenStr1 (v : Value) : Option Value :=
  match v with
  | .string s => some (.int .i64 (.ofNat s.data.toList.length))
  | _ => none

/-! ### Memory -/
def cellsAt (m : Mem) (b : Nat) : Option (List Value) :=
  match m.get b with
  | some (.cells _ cs _) => some cs
  | _ => none

def loadV1 (m : Mem) (v : Value) : Option Value :=
  match v with
  | .pointer (some ⟨b, o, none⟩) => (cellsAt m b).bind fun cs => nth cs o
  | _ => none

def loadVN (m : Mem) (n : Nat) (v : Value) : Option Value :=
  match v with
  | .pointer (some ⟨b, o, none⟩) => (cellsAt m b).bind fun cs => aggOf (cut o n cs)
  | _ => none

def keyOk (d : TypeDesc) (k : Value) : Bool :=
  match k with
  | .int q _ => (match d with | .int q' => Nat.beq (kindNo q) (kindNo q') | _ => false)
  | .string _ => (match d with | .string => true | _ => false)
  | .bool _ => (match d with | .bool => true | _ => false)
  | _ => false

def lookup2 (d : TypeDesc) (zero : Value) (ok : Bool) (m : Mem) (x k : Value) : Option Value :=
  bif keyOk d k then
    (entriesOf m x).bind fun es => (findKey d k es).bind fun r =>
    match r with
    | some v => some (bif ok then .tuple #[v, .bool true] else v)
    | none => some (bif ok then .tuple #[zero, .bool false] else zero)
  else none

def lenMap1 (m : Mem) (x : Value) : Option Value := (entriesOf m x).bind fun es => some (goInt es.length)

def b2s1 (m : Mem) (v : Value) : Option Value :=
  match v with
  | .slice (some ⟨b, k, none⟩) len sz =>
    bif Nat.beq sz 1 then (cellsAt m b).bind fun cs => (cut k len cs).bind fun l => (bytesOf l).bind fun s => some (.string ⟨s.toArray⟩) else none
  | _ => none

def pushV (m : Mem) (x : Blk) (f : Nat → Value) : Option (Value × Mem) :=
  (m.push x).bind fun m' => some (f m.next, m')

def ptrTo (b : Nat) : Value := .pointer (some ⟨b, 0, none⟩)

/-- n times the same cells. -/
def zeros (z : List Value) (n : Nat) : List Value := @Nat.rec (fun _ => List Value) [] (fun _ ih => z ++ ih) n

def mkslice2 (elem : TypeId) (size : Nat) (zero : List Value) (m : Mem) (l c : Value) : Option (Value × Mem) :=
  match l with
  | .int _ (.ofNat l) =>
    match c with
    | .int _ (.ofNat c) =>
      bif Nat.ble l c && Nat.ble c 1000000 then pushV m (.cells elem (zeros zero l) true) fun b => .slice (some ⟨b, 0, none⟩) l size else none
    | _ => none
  | _ => none

/-- Cells that may be written. -/
def openAt (m : Mem) (b : Nat) : Option (TypeId × List Value) :=
  match m.get b with
  | some (.cells e cs true) => some (e, cs)
  | _ => none

def store2 (n : Nat) (m : Mem) (a v : Value) : Option (Value × Mem) :=
  match a with
  | .pointer (some ⟨b, o, none⟩) =>
    bif Nat.beq v.cells.toList.length n && ones v.cells.toList then
      (openAt m b).bind fun x => (paste o v.cells.toList x.2).bind fun cs' => some (undef, m.put b (.cells x.1 cs' true))
    else none
  | _ => none

def mapset3 (d : TypeDesc) (m : Mem) (x k v : Value) : Option (Value × Mem) :=
  match x with
  | .map (some r) =>
    match m.get r with
    | some (.map es) => bif keyOk d k then (storeKey d k v es).bind fun es' => some (undef, m.put r (.map es')) else none
    | _ => none
  | _ => none

def delete2 (d : TypeDesc) (m : Mem) (x k : Value) : Option (Value × Mem) :=
  match x with
  | .map (some r) =>
    match m.get r with
    | some (.map es) => bif keyOk d k then (dropKey d k es).bind fun es' => some (.tuple #[], m.put r (.map es')) else none
    | _ => none
  | _ => none

def appendTo (elem : TypeId) (size n : Nat) (m : Mem) (s : Value) (new : List Value) : Option (Value × Mem) :=
  match s with
  | .slice none 0 0 =>
    bif Nat.beq n 0 then some (s, m) else pushV m (.cells elem new true) fun b => .slice (some ⟨b, 0, none⟩) n size
  | .slice (some ⟨b, o, none⟩) len sz =>
    bif Nat.beq n 0 then some (s, m) else
    (openAt m b).bind fun x =>
    bif Nat.beq sz size && Nat.ble len 1000000 then
      (cut o (len * size) x.2).bind fun old => pushV (m.put b .dead) (.cells elem (old ++ new) true) fun b => .slice (some ⟨b, 0, none⟩) (len + n) size
    else none
  | _ => none

def append2 (elem : TypeId) (size : Nat) (m : Mem) (s x : Value) : Option (Value × Mem) :=
  (lenOf x).bind fun n => (sourceCells m size n x).bind fun new =>
  bif Nat.ble n 1000000 && ones new then appendTo elem size n m s new else none

def copyTo (size n : Nat) (m : Mem) (d : Value) (new : List Value) : Option (Value × Mem) :=
  match d with
  | .slice none 0 0 => some (goInt n, m)
  | .slice (some ⟨b, o, none⟩) _ sz =>
    (openAt m b).bind fun x => bif Nat.beq sz size && ones new then (paste o new x.2).bind fun cs' => some (goInt n, m.put b (.cells x.1 cs' true)) else none
  | _ => none

def copy2 (size : Nat) (m : Mem) (d x : Value) : Option (Value × Mem) :=
  (lenOf d).bind fun dn => (lenOf x).bind fun xn => (sourceCells m size (Nat.min xn dn) x).bind fun new => copyTo size (Nat.min xn dn) m d new

/-! ### One instruction -/
abbrev Rec := FuncId → Array Value → Mem → Option (Value × Mem)
abbrev Exec := Program → Rec → T Value → Mem → Option (Value × Mem)

def ret (v : Option Value) (m : Mem) : Option (Value × Mem) :=
  @Option.rec Value (fun _ => Mem → Option (Value × Mem)) (fun _ => none) (fun v m => some (v, m)) v m

/-- The function may be called. -/
def callable (P : Program) (g : FuncId) : Bool :=
  match P.funcs[g]? with
  | some fn => fn.body.isSome && !(fn.name == "runtime.NumGoroutine")
  | none => false

def callv1 (P : Program) (rec : Rec) (m : Mem) (f : Value) (args : List Value) : Option (Value × Mem) :=
  match f with
  | .func (.func g) first captured => bif callable P g then rec g (first.toList ++ (args ++ captured.toList)).toArray m else none
  | _ => none

/-- The abstract machine's own word on an operation without its guard. -/
def opVal (P : Program) (rec : Rec) (o : Oper) (tm : T Value) (m : Mem) : Option (Value × Mem) :=
  match kindOf P o with
  | .pure => (pureOp P (evalAt tm) o).bind fun v => some (v, m)
  | .read => (readOp P (evalAt tm) m o).bind fun v => some (v, m)
  | .new => (newOp P (evalAt tm) o).bind fun x => pushV m x.1 x.2
  | .write => writeOp P (evalAt tm) m o
  | .call => (callOp P (evalAt tm) o).bind fun x => rec x.1 x.2 m
  | .bad => none

def pick3 (c a b : Value) : Option Value :=
  match c with
  | .bool t => some (bif t then a else b)
  | _ => none

def nilCheck1 (v : Value) : Option Value :=
  match v with
  | .pointer (some a) => some (.pointer (some a))
  | _ => none

def exec (i : Ins) : Exec :=
  @Ins.rec (fun _ => Exec)
    (fun x _ _ tm m => some (ev tm x, m))
    (fun c a b _ _ tm m => ret (pick3 (ev tm c) (ev tm a) (ev tm b)) m)
    (fun x _ _ tm m => ret (nilCheck1 (ev tm x)) m)
    (fun op x y _ _ tm m => ret (bin2 op (ev tm x) (ev tm y)) m)
    (fun neg x y _ _ tm m => ret (eqb2 neg (ev tm x) (ev tm y)) m)
    (fun d op x y _ _ tm m => ret (nilTest d op (ev tm x) (ev tm y)) m)
    (fun x _ _ tm m => ret (not1 (ev tm x)) m)
    (fun k x _ _ tm m => ret (conv1 k (ev tm x)) m)
    (fun off x _ _ tm m => ret (fieldAddr1 off (ev tm x)) m)
    (fun n off x _ _ tm m => ret (part1 n off (ev tm x)) m)
    (fun size x i _ _ tm m => ret (indexAddr2 size (ev tm x) (ev tm i)) m)
    (fun len size x i _ _ tm m => ret (indexArr2 len size (ev tm x) (ev tm i)) m)
    (fun x i _ _ tm m => ret (indexStr2 (ev tm x) (ev tm i)) m)
    (fun x n _ _ tm m => ret (extract1 (ev tm x) n) m)
    (fun f first captured _ _ tm m => some (.func (.func f) (evs tm first).toArray (evs tm captured).toArray, m))
    (fun zero parts _ _ tm m => ret (aggOf (lay tm parts zero)) m)
    (fun size x lo hi _ _ tm m => ret (slice3 size (ev tm x) (bound1 tm lo 0) (bound1 tm hi)) m)
    (fun x _ _ tm m => ret (len1 (ev tm x)) m)
    (fun x _ _ tm m => ret (lenStr1 (ev tm x)) m)
    (fun x _ _ tm m => ret (loadV1 m (ev tm x)) m)
    (fun n x _ _ tm m => ret (loadVN m n (ev tm x)) m)
    (fun d zero ok x k _ _ tm m => ret (lookup2 d zero ok m (ev tm x) (ev tm k)) m)
    (fun x _ _ tm m => ret (lenMap1 m (ev tm x)) m)
    (fun x _ _ tm m => ret (b2s1 m (ev tm x)) m)
    (fun elem zero _ _ _ m => pushV m (.cells elem zero true) ptrTo)
    (fun elem x _ _ tm m => pushV m (.cells elem (ev tm x).cells.toList true) ptrTo)
    (fun elem len size zero parts _ _ tm m => (lay tm parts zero).bind fun cs => pushV m (.cells elem cs true) fun b => .slice (some ⟨b, 0, none⟩) len size)
    (fun elem size zero l c _ _ tm m => mkslice2 elem size zero m (ev tm l) (ev tm c))
    (fun _ _ _ m => pushV m (.map []) fun b => .map (some b))
    (fun n x v _ _ tm m => store2 n m (ev tm x) (ev tm v))
    (fun d x k v _ _ tm m => mapset3 d m (ev tm x) (ev tm k) (ev tm v))
    (fun elem size x y _ _ tm m => append2 elem size m (ev tm x) (ev tm y))
    (fun size x y _ _ tm m => copy2 size m (ev tm x) (ev tm y))
    (fun d x k _ _ tm m => delete2 d m (ev tm x) (ev tm k))
    (fun f args _ rec tm m => rec f (evs tm args).toArray m)
    (fun f args P rec tm m => callv1 P rec m (ev tm f) (evs tm args))
    (fun o P rec tm m => opVal P rec o tm m) i

/-! ### Code -/
inductive Gd where
  | always
  | never
  | on (t : Tmp) (want : Bool)

structure NOp where
  dst : Option Tmp
  gd : Gd
  ins : Ins

def putN (tm : T Value) (dst : Option Tmp) (v : Value) : T Value :=
  @Option.rec Tmp (fun _ => Value → T Value → T Value) (fun _ tm => tm) (fun d v tm => (way depth d).set v tm) dst v tm

def isB (x : Option Value) (want : Bool) : Bool :=
  match x with
  | some (.bool b) => b == want
  | _ => false

def wantedN (g : Gd) (tm : T Value) : Bool :=
  @Gd.rec (fun _ => T Value → Bool) (fun _ => true) (fun _ => false) (fun t want tm => isB ((way depth t).get tm) want) g tm

def stOf (dst : Option Tmp) (tm : T Value) (x : Option (Value × Mem)) : Option St :=
  @Option.rec (Value × Mem) (fun _ => Option Tmp → T Value → Option St) (fun _ _ => none)
    (fun x dst tm => @Prod.rec Value Mem (fun _ => Option Tmp → T Value → Option St) (fun v m dst tm => some ⟨putN tm dst v, m⟩) x dst tm) x dst tm

def nOp (P : Program) (rec : Rec) (o : NOp) (s : St) : Option St :=
  @St.rec (fun _ => NOp → Program → Rec → Option St) (fun tm m o P rec => @NOp.rec (fun _ => Program → Rec → T Value → Mem → Option St)
    (fun dst gd ins P rec tm m => @Bool.rec (fun _ => Option Tmp → Ins → Program → Rec → T Value → Mem → Option St)
      (fun dst _ _ _ tm m => some ⟨putN tm dst undef, m⟩) (fun dst ins P rec tm m => stOf dst tm (exec ins P rec tm m)) (wantedN gd tm) dst ins P rec tm m) o P rec tm m) s o P rec

def nOps (P : Program) (rec : Rec) (l : List NOp) (s : St) : Option St :=
  @List.rec NOp (fun _ => Program → Rec → St → Option St) (fun _ _ s => some s)
    (fun o _ ih P rec s => @Option.rec St (fun _ => (St → Option St) → Option St) (fun _ => none) (fun s' k => k s') (nOp P rec o s) (ih P rec)) l P rec s

/-- The states ahead of each instruction, and the last. -/
def nTrace (P : Program) (rec : Rec) (l : List NOp) (s : St) : Option (List St) :=
  @List.rec NOp (fun _ => Program → Rec → St → Option (List St)) (fun _ _ s => some [s])
    (fun o _ ih P rec s => @Option.rec St (fun _ => (St → Option (List St)) → St → Option (List St)) (fun _ _ => none)
      (fun s' k s => @Option.rec (List St) (fun _ => St → Option (List St)) (fun _ => none) (fun l s => some (s :: l)) (k s') s) (nOp P rec o s) (ih P rec) s) l P rec s

def sameReads (n : Nat) (a b : Option (Value × Mem)) : Bool :=
  match a with
  | some (a, _) =>
    match b with
    | some (b, _) => same a b && inside n a
    | none => false
  | none => false

/-- A read comes to the same on both sides of a write whose order is open. -/
def pairN (P : Program) (rec : Rec) (l : List NOp) (sts : List St) (x : Nat × Nat) : Bool :=
  match nth l x.1, nth l x.2, nth sts x.1, nth sts x.2, nth sts (x.2 + 1) with
  | some o, some w, some sj, some sw, some sw' =>
    notB (wantedN o.gd sj.tm) || notB (wantedN w.gd sw.tm) ||
    sameReads sj.mem.next (exec o.ins P rec sj.tm sj.mem) (exec o.ins P rec sj.tm (bif Nat.blt x.2 x.1 then sw.mem else sw'.mem))
  | _, _, _, _, _ => false

def lastOf (l : List St) : Option St := @List.rec St (fun _ => Option St) none (fun s r ih => @List.rec St (fun _ => St → Option St → Option St) (fun s _ => some s) (fun _ _ _ _ ih => ih) r s ih) l

def nDrawn (P : Program) (rec : Rec) (l : List NOp) (ps : List (Nat × Nat)) (s : St) : Option St :=
  (nTrace P rec l s).bind fun sts => bif ps.all (pairN P rec l sts) then lastOf sts else none

inductive NCode where
  | skip
  | ops (l : List NOp)
  | drawn (l : List NOp) (ps : List (Nat × Nat))
  | seq (a b : NCode)
  | cond (c : Operand) (a b : NCode)
  | block (id : Nat) (c : NCode)
  | loop (c : NCode)
  | exit (id : Nat)
  | ret
  | bad

inductive NRes where
  | tmp (t : Tmp)
  | cell1 (a : Tmp)
  | cellN (a : Tmp) (n : Nat)

inductive NTask where
  | code (c : NCode) (s : St)
  | call (f : FuncId) (args : Array Value) (m : Mem)

def slotV (tm : T Value) (t : Tmp) : Value := orUndef ((way depth t).get tm)

def res1 (tm : T Value) (m : Mem) (r : NRes) : Option Value :=
  match r with
  | .tmp t => some (slotV tm t)
  | .cell1 a => loadV1 m (slotV tm a)
  | .cellN a n => loadVN m n (slotV tm a)

def resN (tm : T Value) (m : Mem) (l : List NRes) : Option (List Value) :=
  @List.rec NRes (fun _ => T Value → Mem → Option (List Value)) (fun _ _ => some [])
    (fun r _ ih tm m => (res1 tm m r).bind fun v => (ih tm m).bind fun vs => some (v :: vs)) l tm m

def tupleOf (vs : List Value) : Value :=
  match vs with
  | [v] => v
  | vs => .tuple vs.toArray

def leaveN (l : List NRes) (s : St) : Option Res :=
  (resN s.tm s.mem l).bind fun vs => some (.call (tupleOf vs) s.mem)

/-! ### Bringing the loaded code to instructions -/
def small (n : Nat) : Bool := Nat.ble n 1000000

def opdSmall (x : Operand) : Bool :=
  match x with
  | .tmp t => small t
  | _ => true

/-- The end of the abstract machine's test of an aggregate. -/
def partKind (P : Program) (t : TypeId) : Option (Option Nat) :=
  (aggAt P t).bind fun agg => bif agg then (sizeAt P t).bind fun n => some (some n) else some none

def partsOf (place : Nat → Option (Nat × Nat)) (l : List (Nat × Operand)) : Option (List (Nat × Nat × Operand)) :=
  match l with
  | [] => some []
  | p :: r => (place p.1).bind fun q => (partsOf place r).bind fun ps => some ((q.1, q.2, p.2) :: ps)

def binIns (P : Program) (o : Oper) (op : BinOp) (t : TypeId) (x y : Operand) : Ins :=
  match P.underlying t with
  | some (.int _) =>
    match op with
    | .shl | .shr => .gen o
    | op => .bin op x y
  | some .bool =>
    match op with
    | .eql => .eqb false x y
    | .neq => .eqb true x y
    | _ => .gen o
  | some (.pointer e) => nilIns o (.pointer e) op x y
  | some (.slice e) => nilIns o (.slice e) op x y
  | some (.map k e) => nilIns o (.map k e) op x y
  | some (.func a b c) => nilIns o (.func a b c) op x y
  | _ => .gen o
where
  nilIns (o : Oper) (d : TypeDesc) (op : BinOp) (x y : Operand) : Ins :=
    match x, y with
    | .const .nilFunc, _ => .nilt d op x y
    | _, .const .nilFunc => .nilt d op x y
    | .const (.pointer none), _ => .nilt d op x y
    | _, .const (.pointer none) => .nilt d op x y
    | .const (.map none), _ => .nilt d op x y
    | _, .const (.map none) => .nilt d op x y
    | .const (.slice none 0 0), _ => .nilt d op x y
    | _, .const (.slice none 0 0) => .nilt d op x y
    | _, _ => .gen o

def zeroList (P : Program) (t : TypeId) : Option (List Value) := (zeroAt P t).map fun z => z.cells.toList

def structAt (P : Program) (t : TypeId) : Option (Array Field) :=
  match P.underlying t with
  | some (.struct fs) => some fs
  | _ => none

def places (P : Program) : List Field → Option (List (Nat × Nat))
  | [] => some []
  | f :: r => (sizeAt P f.type).bind fun n => (places P r).bind fun l => some ((f.offset, n) :: l)

def buildIns (P : Program) (o : Oper) (t : TypeId) (parts : Array (Nat × Operand)) : Option Ins :=
  (zeroList P t).bind fun z =>
  match P.underlying t with
  | some (.struct fs) => (places P fs.toList).bind fun pl => (partsOf (fun i => nth pl i) parts.toList).bind fun ps => some (.build z ps)
  | some (.array _ elem) => (sizeAt P elem).bind fun n => (partsOf (fun i => some (i * n, n)) parts.toList).bind fun ps => some (.build z ps)
  | _ => none

def bsliceIns (P : Program) (t : TypeId) (len : Nat) (parts : Array (Nat × Operand)) : Option Ins :=
  match P.underlying t with
  | some (.slice elem) => (sizeAt P elem).bind fun n => (zeroCells P elem len).bind fun z =>
    bif Nat.ble (len * n) 1000000 then (partsOf (fun i => some (i * n, n)) parts.toList).bind fun ps => some (.bslice elem len n z ps) else none
  | _ => none

def sliceElem (P : Program) (t : TypeId) : Option TypeId :=
  match P.underlying t with
  | some (.slice e) => some e
  | _ => none

def mapTypes (P : Program) (t : TypeId) : Option (TypeId × TypeId) :=
  match P.underlying t with
  | some (.map k e) => some (k, e)
  | _ => none

def appendIns (P : Program) (argTypes : Array TypeId) (s x : Operand) : Option Ins :=
  match (argTypes[0]?).bind P.underlying, (argTypes[1]?).bind P.underlying with
  | some (.slice _), some (.int _) => none
  | some (.slice elem), some _ => (P.info? elem).bind fun i => (zeroAt P elem).bind fun z =>
    bif Nat.ble i.bytes 100000 && Nat.beq z.cells.size i.size then some (.append elem i.size s x) else none
  | _, _ => none

def isNone1 {α : Type} (x : Option α) : Bool := @Option.rec α (fun _ => Bool) true (fun _ => false) x

def insOf (P : Program) (o : Oper) : Option Ins :=
  match o.op with
  | .move x | .assign x => some (.mov x)
  | .pick c a b => some (.pick c a b)
  | .nilCheck x => some (.nilCheck x)
  | .binOp op t x y _ => some (binIns P o op t x y)
  | .unOp .not _ x => some (.not x)
  | .convert src dst x =>
    match P.underlying src, P.underlying dst with
    | some (.int _), some (.int k) => some (.conv k x)
    | some (.slice e), some .string => (match P.underlying e with | some (.int .u8) => some (.b2s x) | _ => none)
    | _, _ => none
  | .fieldAddr t x f => (structAt P t).bind fun fs => (fs[f]?).bind fun f => (sizeAt P f.type).bind fun n => bif Nat.beq n 0 then none else some (.fieldAddr f.offset x)
  | .field t x f => (structAt P t).bind fun fs => (fs[f]?).bind fun f => (partKind P f.type).bind fun n => some (.part n f.offset x)
  | .indexAddr t x i =>
    match P.underlying t with
    | some (.slice e) => (sizeAt P e).bind fun n => some (.indexAddr n x i)
    | some (.array len e) => (sizeAt P e).bind fun n => some (.indexArr len n x i)
    | _ => none
  | .index t x i =>
    match P.underlying t with
    | some .string => some (.indexStr x i)
    | _ => none
  | .extract x n => some (.extract x n)
  | .makeFunc (.func f) first captured => some (.mkfunc f first.toList captured.toList)
  | .build t parts => buildIns P o t parts
  | .slice t x lo hi none => (sliceElem P t).bind fun e => (sizeAt P e).bind fun n => some (.slice n x lo hi)
  | .load t x => (partKind P t).bind fun n => some (match n with | none => .load1 x | some n => .loadN n x)
  | .lookup t x k ok => (mapTypes P t).bind fun q => (P.underlying q.1).bind fun d => (zeroAt P q.2).bind fun z => some (.lookup d z ok x k)
  | .alloc elem => (zeroList P elem).bind fun z => some (.alloc elem z)
  | .box elem x => some (.box elem x)
  | .buildSlice t len parts => bsliceIns P t len parts
  | .makeSlice t l c => (sliceElem P t).bind fun e => (P.info? e).bind fun i => (zeroList P e).bind fun z =>
    bif Nat.ble i.bytes 100000 && Nat.beq z.length i.size then some (.mkslice e i.size z l c) else none
  | .makeMap t none => (mapTypes P t).bind fun _ => some .mkmap
  | .store t x v => (sizeAt P t).bind fun n => some (.store n x v)
  | .mapUpdate t x k v => (mapTypes P t).bind fun q => (P.underlying q.1).bind fun d => some (.mapset d x k v)
  | .call { callee := .builtin .len, args, argTypes } =>
    match args.toList, (argTypes[0]?).bind P.underlying with
    | [x], some (.slice _) => some (.lenS x)
    | [x], some .string => some (.lenStr x)
    | [x], some (.map _ _) => some (.lenMap x)
    | _, _ => none
  | .call { callee := .builtin .append, args, argTypes } =>
    match args.toList with
    | [s, x] => appendIns P argTypes s x
    | _ => none
  | .call { callee := .builtin .copy, args, argTypes } =>
    match args.toList, (argTypes[0]?).bind P.underlying with
    | [d, x], some (.slice e) => (sizeAt P e).bind fun n => some (.copy n d x)
    | _, _ => none
  | .call { callee := .builtin .delete, args, argTypes } =>
    match args.toList, (argTypes[0]?).bind P.underlying with
    | [x, k], some (.map q _) => (P.underlying q).bind fun d => some (.delete d x k)
    | _, _ => none
  | .call { callee := .value (.func g), args, .. } => bif callable P g then some (.call g args.toList) else none
  | .call { callee := .value f, args, .. } => some (.callv f args.toList)
  | _ => none

def orGen (o : Oper) (i : Option Ins) : Ins := @Option.rec Ins (fun _ => Oper → Ins) (fun o => .gen o) (fun i _ => i) i o

/-- All slots that are named are small. -/
def slotsOk (o : Oper) : Bool := o.op.operands.toList.all opdSmall && (match o.dst with | some d => small d | none => true)

def gdOf (ops : Array Oper) (o : Oper) : Option Gd :=
  match o.guard with
  | none => some .always
  | some (j, want) =>
    match (ops[j]?).bind (·.dst) with
    | some t => bif small t then some (.on t want) else none
    | none => some .never

def nopOf (P : Program) (ops : Array Oper) (o : Oper) : Option NOp :=
  (gdOf ops o).bind fun g => bif slotsOk o then some ⟨o.dst, g, orGen o (insOf P o)⟩ else none

def nopsOf (P : Program) (ops : Array Oper) : List Oper → Option (List NOp)
  | [] => some []
  | o :: r => (nopOf P ops o).bind fun n => (nopsOf P ops r).bind fun l => some (n :: l)

def isRead (P : Program) (o : Oper) : Bool :=
  match kindOf P o with
  | .read => true
  | _ => false

def readFirst (P : Program) (ops : Array Oper) (x : Nat × Nat) : Bool :=
  match ops[x.1]? with
  | some o => isRead P o
  | none => false

def regionOf (P : Program) (ops : Array Oper) (draw : Bool) : NCode :=
  match nopsOf P ops ops.toList with
  | some l =>
    bif draw then
      match openPairs P ops with
      | [] => .ops l
      | ps => bif ps.all (readFirst P ops) then .drawn l ps else .bad
    else .ops l
  | none => .bad

def compile (P : Program) (c : Code) : NCode :=
  @Code.rec (fun _ => NCode) .skip (fun _ ops draw => regionOf P ops draw) (fun _ _ a b => .seq a b)
    (fun c _ _ a b => bif opdSmall c then .cond c a b else .bad) (fun id _ c => .block id c) (fun _ c => .loop c) (fun _ _ _ _ _ _ => .bad) (fun id => .exit id) (fun _ _ => .bad) (fun _ => .skip) (fun _ => .bad) .ret (fun _ => .bad) c

def cellRes (a : Tmp) (n : Option Nat) : NRes :=
  match n with
  | none => .cell1 a
  | some n => .cellN a n

def resOf (P : Program) : List ResultVar → Option (List NRes)
  | [] => some []
  | .tmp t :: r => bif small t then (resOf P r).bind fun l => some (.tmp t :: l) else none
  | .cell a t :: r => bif small a then (partKind P t).bind fun n => (resOf P r).bind fun l => some (cellRes a n :: l) else none

structure NFunc where
  code : NCode
  res : List NRes

def funcOf (P : Program) (f : FuncId) : Option NFunc :=
  (P.funcs[f]?).bind fun fn => fn.body.bind fun c => (resOf P fn.results.toList).bind fun r => some ⟨compile P c, r⟩

/-! ### Runs -/
def callIn (rec : NTask → Option Res) (f : FuncId) (args : Array Value) (m : Mem) : Option (Value × Mem) :=
  match rec (.call f args m) with
  | some (.call v m') => some (v, m')
  | _ => none

def normalTo (s : Option St) : Option Res := @Option.rec St (fun _ => Option Res) none (fun s => some (.code .normal s)) s

def thenN (rec : NTask → Option Res) (b : NCode) (r : Option Res) : Option Res :=
  match r with
  | some (.code .normal s) => rec (.code b s)
  | r => r

def condN (v : Value) (rec : NTask → Option Res) (a b : NCode) (s : St) : Option Res :=
  match v with
  | .bool t => @Bool.rec (fun _ => (NTask → Option Res) → NCode → NCode → St → Option Res) (fun rec _ b s => rec (.code b s)) (fun rec a _ s => rec (.code a s)) t rec a b s
  | _ => none

def blockN (id : Nat) (r : Option Res) : Option Res :=
  match r with
  | some (.code (.exit k) s) => bif Nat.beq k id then some (.code .normal s) else some (.code (.exit k) s)
  | r => r

def codeN (P : Program) (c : NCode) (rec : NTask → Option Res) (s : St) : Option Res :=
  @NCode.rec (fun _ => Program → (NTask → Option Res) → St → Option Res)
    (fun _ _ s => some (.code .normal s))
    (fun l P rec s => normalTo (nOps P (callIn rec) l s))
    (fun l ps P rec s => normalTo (nDrawn P (callIn rec) l ps s))
    (fun a b _ _ _ rec s => thenN rec b (rec (.code a s)))
    (fun c a b _ _ _ rec s => condN (ev s.tm c) rec a b s)
    (fun id c _ _ rec s => blockN id (rec (.code c s)))
    (fun c _ _ rec s => thenN rec (.loop c) (rec (.code c s)))
    (fun id _ _ s => some (.code (.exit id) s))
    (fun _ _ s => some (.code .ret s))
    (fun _ _ _ => none) c P rec s

def entN (args : List Value) : Nat → T Value → T Value :=
  @List.rec Value (fun _ => Nat → T Value → T Value) (fun _ tm => tm) (fun v _ ih k tm => ih (Nat.add k (nat_lit 1)) ((way depth k).set v tm)) args

def leaves (res : List NRes) (r : Option Res) : Option Res :=
  match r with
  | some (.code .normal s) => leaveN res s
  | some (.code .ret s) => leaveN res s
  | _ => none

def callN (P : Program) (rec : NTask → Option Res) (f : FuncId) (args : Array Value) (m : Mem) : Option Res :=
  (funcOf P f).bind fun nf => bif Nat.ble args.toList.length 1000000 then leaves nf.res (rec (.code nf.code ⟨entN args.toList (nat_lit 0) .leaf, m⟩)) else none

def nstep (P : Program) (rec : NTask → Option Res) (t : NTask) : Option Res :=
  @NTask.rec (fun _ => Program → (NTask → Option Res) → Option Res) (fun c s P rec => codeN P c rec s) (fun f args m P rec => callN P rec f args m) t P rec

def nrun (P : Program) (n : Nat) : NTask → Option Res :=
  @Nat.rec (fun _ => NTask → Option Res) (fun _ => none) (fun _ ih t => nstep P ih t) n

end
end Go.AM
