/- A part of the proof over this seat's program: the checked evaluator and its soundness (E..), and what it gives here (the others). No condition. -/
import Derived.Orders
import Derived.KernelRfl
set_option linter.unusedSectionVars false
namespace Go.Eng
open Go

inductive T (α : Type) where
  | nil : T α
  | node (l : T α) (v : Option α) (r : T α) : T α

noncomputable def T.get {α : Type} (t : T α) : Nat → Option α :=
  T.rec (motive := fun _ => Nat → Option α) (fun _ => none)
    (fun _ v _ gl gr n => Nat.rec (motive := fun _ => Option α) v
      (fun m _ => Bool.rec (motive := fun _ => Option α) (gl (Nat.div m 2)) (gr (Nat.div m 2)) (Nat.beq (Nat.mod m 2) 1)) n) t

noncomputable def T.single {α : Type} (x : α) (f : Nat) : Nat → (T α → Bool) → Bool :=
  Nat.rec (motive := fun _ => Nat → (T α → Bool) → Bool) (fun _ _ => false)
    (fun _ ih n K => Nat.rec (motive := fun _ => Bool) (K (.node .nil (some x) .nil))
      (fun m _ => Bool.rec (motive := fun _ => Bool) (ih (Nat.div m 2) fun t => K (.node t none .nil)) (ih (Nat.div m 2) fun t => K (.node .nil none t)) (Nat.beq (Nat.mod m 2) 1)) n) f

noncomputable def T.set {α : Type} (x : α) (t : T α) : Nat → (T α → Bool) → Bool :=
  T.rec (motive := fun _ => Nat → (T α → Bool) → Bool) (fun n K => T.single x (Nat.succ n) n K)
    (fun l v r sl sr n K => Nat.rec (motive := fun _ => Bool) (K (.node l (some x) r))
      (fun m _ => Bool.rec (motive := fun _ => Bool) (sl (Nat.div m 2) fun t => K (.node t v r)) (sr (Nat.div m 2) fun t => K (.node l v t)) (Nat.beq (Nat.mod m 2) 1)) n) t

/-- how the engine works: on closed values (each forced at once), or on values with free parts -/
class Mode where
  sy : Bool
  st : Bool
abbrev Cl : Mode := ⟨false, false⟩
abbrev Sy : Mode := ⟨true, false⟩
/-- with free values, and new slices that stand still from the beginning -/
abbrev St : Mode := ⟨true, true⟩

/-- data that stand still in memory -/
inductive Dat : Type where
  | bool (b : Bool)
  | int (k : IntKind) (n : Int)
  | str (len code : Nat)
  | nilPtr
  | nilMap
  | nilFunc
  | nilIface
  | slice (n sz : Nat) (elem : Nat → List Dat)

/-- a value as the engine holds it -/
inductive AV : Type where
  | bool (b : Bool)
  | int (k : IntKind) (n : Int)
  | str (len code : Nat)
  | nilPtr
  | ptr (b o : Nat)
  | nilSlice
  | slice (b o len cap : Nat) (op : Bool)
  | nilMap
  | map (b : Nat)
  | func (fn : Fn) (first cap : List AV)
  | nilFunc
  | iface (t : TypeId) (v : AV)
  | nilIface
  | agg (l : List AV)
  | tuple (l : List AV)
  | dslice (n sz : Nat) (elem : Nat → List Dat)
  | dptr (cells : List Dat) (off : Nat)

def toAV (d : Dat) : AV :=
  match d with
  | .bool b => .bool b
  | .int k n => .int k n
  | .str l c => .str l c
  | .nilPtr => .nilPtr
  | .nilMap => .nilMap
  | .nilFunc => .nilFunc
  | .nilIface => .nilIface
  | .slice n sz el => .dslice n sz el
noncomputable def toAVs (l : List Dat) : List AV := List.rec (motive := fun _ => List AV) [] (fun d _ r => toAV d :: r) l
/-- the cells of the first n elements -/
noncomputable def firstEls (el : Nat → List Dat) (n : Nat) : List Dat := Nat.rec (motive := fun _ => List Dat) [] (fun m r => List.append r (el m)) n

abbrev AV.undef : AV := .tuple []

inductive Blk : Type where
  | row (c : List AV) (op : Bool) (sz : Nat)
  | map (es : List (AV × AV))
  | siter (l c pos : Nat)
  | dead

structure Mem where
  t : T Blk
  nx : Nat

abbrev Fr := T AV

inductive AE where
  | normal | ret | exit (id : Nat)

/-! forcing -/
variable [Mode]
noncomputable def fN (n : Nat) (K : Nat → Bool) : Bool := Bool.rec (motive := fun _ => Bool) (Nat.rec (motive := fun _ => Bool) (K 0) (fun m _ => K (Nat.succ m)) n) (K n) Mode.sy
noncomputable def fI (x : Int) (K : Int → Bool) : Bool := Bool.rec (motive := fun _ => Bool)
  (Int.rec (motive := fun _ => Bool) (fun n => fN n fun n => K (Int.ofNat n)) (fun n => fN n fun n => K (Int.negSucc n)) x) (K x) Mode.sy

/-! lists, strictly -/
noncomputable def lenL {α : Type} (l : List α) : Nat := List.rec (motive := fun _ => Nat) 0 (fun _ _ n => Nat.succ n) l
noncomputable def takeC {α : Type} (l : List α) : Nat → (List α → Bool) → Bool :=
  List.rec (motive := fun _ => Nat → (List α → Bool) → Bool) (fun n K => Nat.rec (motive := fun _ => Bool) (K []) (fun _ _ => false) n)
    (fun x _ ih n K => Nat.rec (motive := fun _ => Bool) (K []) (fun m _ => ih m fun r => K (x :: r)) n) l
noncomputable def dropC {α : Type} (l : List α) : Nat → (List α → Bool) → Bool :=
  List.rec (motive := fun _ => Nat → (List α → Bool) → Bool) (fun n K => Nat.rec (motive := fun _ => Bool) (K []) (fun _ _ => false) n)
    (fun x xs ih n K => Nat.rec (motive := fun _ => Bool) (K (x :: xs)) (fun m _ => ih m K) n) l
noncomputable def takeK {α : Type} (l : List α) (n : Nat) (K : List α → Bool) : Bool :=
  Bool.rec (motive := fun _ => Bool) (takeC l n K) (Bool.rec (motive := fun _ => Bool) false (K (List.take n l)) (Nat.ble n (lenL l))) Mode.sy
noncomputable def dropK {α : Type} (l : List α) (n : Nat) (K : List α → Bool) : Bool :=
  Bool.rec (motive := fun _ => Bool) (dropC l n K) (Bool.rec (motive := fun _ => Bool) false (K (List.drop n l)) (Nat.ble n (lenL l))) Mode.sy
def headK {α : Type} (l : List α) (K : α → Bool) : Bool := match l with | [] => false | x :: _ => K x
noncomputable def overK {α : Type} (vs : List α) : List α → (List α → Bool) → Bool :=
  List.rec (motive := fun _ => List α → (List α → Bool) → Bool) (fun c K => K c)
    (fun v _ ih c K => match c with | [] => false | _ :: c => ih c fun r => K (v :: r)) vs
noncomputable def putK {α : Type} (vs : List α) (o : Nat) : List α → (List α → Bool) → Bool :=
  Nat.rec (motive := fun _ => List α → (List α → Bool) → Bool) (fun c K => overK vs c K)
    (fun _ ih c K => match c with | [] => false | x :: c => ih c fun r => K (x :: r)) o
noncomputable def appC {α : Type} (xs : List α) : List α → (List α → Bool) → Bool :=
  List.rec (motive := fun _ => List α → (List α → Bool) → Bool) (fun ys K => K ys)
    (fun x _ ih ys K => ih ys fun r => K (x :: r)) xs
noncomputable def appK {α : Type} (xs ys : List α) (K : List α → Bool) : Bool := Bool.rec (motive := fun _ => Bool) (appC xs ys K) (K (List.append xs ys)) Mode.sy
/-- n copies of a list -/
noncomputable def repC {α : Type} (xs : List α) (n : Nat) : (List α → Bool) → Bool :=
  Nat.rec (motive := fun _ => (List α → Bool) → Bool) (fun K => K []) (fun _ ih K => ih fun r => appC xs r K) n
noncomputable def repK {α : Type} (xs : List α) (n : Nat) (K : List α → Bool) : Bool := Bool.rec (motive := fun _ => Bool) (repC xs n K) (K (List.flatten (List.replicate n xs))) Mode.sy
noncomputable def mapK {α β : Type} (f : α → (β → Bool) → Bool) (l : List α) : (List β → Bool) → Bool :=
  List.rec (motive := fun _ => (List β → Bool) → Bool) (fun K => K []) (fun x _ ih K => f x fun y => ih fun r => K (y :: r)) l

/-! strings: their length, and their bytes as one number, the first byte the lowest -/
noncomputable def enc (l : List UInt8) : Nat := List.rec (motive := fun _ => Nat) 0 (fun b _ n => Nat.add b.toNat (Nat.mul 256 n)) l

/-! constants -/
noncomputable def ofVal1 (v : Value) (K : AV → Bool) : Bool :=
  match v with
  | .bool b => K (.bool b)
  | .int k n => fI n fun n => K (.int k n)
  | .string s => fN (lenL s.data.toList) fun l => fN (enc s.data.toList) fun c => K (.str l c)
  | .pointer none => K .nilPtr
  | .slice none 0 0 => K .nilSlice
  | .map none => K .nilMap
  | .nilFunc => K .nilFunc
  | .nilIface => K .nilIface
  | _ => false
noncomputable def ofVal (v : Value) (K : AV → Bool) : Bool :=
  match v with
  | .agg cs => mapK ofVal1 cs.toList fun l => K (.agg l)
  | .tuple cs => mapK ofVal1 cs.toList fun l => K (.tuple l)
  | v => ofVal1 v K

noncomputable def getT (fr : Fr) (t : Nat) (K : AV → Bool) : Bool := match fr.get t with | some a => K a | none => false
noncomputable def ev (fr : Fr) (x : Operand) (K : AV → Bool) : Bool :=
  match x with
  | .tmp t => getT fr t K
  | .const v => ofVal v K
  | .global _ => false
  | .func f => K (.func (.func f) [] [])
noncomputable def evs (fr : Fr) (l : List Operand) : (List AV → Bool) → Bool := mapK (ev fr) l

/-! integers -/
def modOf : IntKind → Nat
  | .i8 | .u8 => 256
  | .i16 | .u16 => 65536
  | .i32 | .u32 => 4294967296
  | .i64 | .u64 => 18446744073709551616
def halfOf : IntKind → Nat
  | .i8 => 128 | .i16 => 32768 | .i32 => 2147483648 | .i64 => 9223372036854775808
  | _ => 18446744073709551616
/-- a number below the modulus, as a value of the kind -/
noncomputable def finK (k : IntKind) (r : Nat) (K : AV → Bool) : Bool :=
  Bool.rec (motive := fun _ => Bool) (fN r fun r => K (.int k (Int.ofNat r))) (fN (Nat.sub (Nat.sub (modOf k) 1) r) fun r => K (.int k (Int.negSucc r))) (Nat.ble (halfOf k) r)
noncomputable def wrapC (k : IntKind) (x : Int) (K : AV → Bool) : Bool :=
  Int.rec (motive := fun _ => Bool) (fun m => finK k (Nat.mod m (modOf k)) K) (fun m => finK k (Nat.sub (Nat.sub (modOf k) 1) (Nat.mod m (modOf k))) K) x
noncomputable def ilt (a b : Int) : Bool :=
  match a, b with
  | .ofNat a, .ofNat b => Nat.blt a b
  | .ofNat _, .negSucc _ => false
  | .negSucc _, .ofNat _ => true
  | .negSucc a, .negSucc b => Nat.blt b a
/-- within the range of a signed number of 64 bits -/
noncomputable def inI64 (x : Int) : Bool := Bool.rec (motive := fun _ => Bool) false (ilt x 9223372036854775808) (Bool.not (ilt x (-9223372036854775808)))
noncomputable def wrapS (k : IntKind) (x : Int) (K : AV → Bool) : Bool :=
  match k with
  | .i64 => Bool.rec (motive := fun _ => Bool) false (K (.int .i64 x)) (inI64 x)
  | k => K (.int k (k.wrap x))
noncomputable def wrapK (k : IntKind) (x : Int) (K : AV → Bool) : Bool := Bool.rec (motive := fun _ => Bool) (wrapC k x K) (wrapS k x K) Mode.sy
/-- as an unsigned number -/
noncomputable def toU (k : IntKind) (x : Int) : Nat := Int.rec (motive := fun _ => Nat) (fun m => Nat.mod m (modOf k)) (fun m => Nat.sub (Nat.sub (modOf k) 1) (Nat.mod m (modOf k))) x
noncomputable def ieq (a b : Int) : Bool :=
  match a, b with
  | .ofNat a, .ofNat b => Nat.beq a b
  | .negSucc a, .negSucc b => Nat.beq a b
  | _, _ => false
def keq (a b : IntKind) : Bool :=
  match a, b with
  | .i8, .i8 | .i16, .i16 | .i32, .i32 | .i64, .i64 | .u8, .u8 | .u16, .u16 | .u32, .u32 | .u64, .u64 => true
  | _, _ => false
def bitsOf : IntKind → Nat
  | .i8 | .u8 => 8 | .i16 | .u16 => 16 | .i32 | .u32 => 32 | .i64 | .u64 => 64
noncomputable def shAmt (k : IntKind) (n : Nat) : Nat := Bool.rec (motive := fun _ => Nat) (bitsOf k) n (Nat.ble n (bitsOf k))

noncomputable def binInt (op : BinOp) (k : IntKind) (a b : Int) (K : AV → Bool) : Bool :=
  match op with
  | .add => wrapK k (Int.add a b) K
  | .sub => wrapK k (Int.sub a b) K
  | .mul => wrapK k (Int.mul a b) K
  | .quo => Bool.rec (motive := fun _ => Bool) (wrapK k (Int.tdiv a b) K) false (ieq b 0)
  | .rem => Bool.rec (motive := fun _ => Bool) (fI (Int.tmod a b) fun r => K (.int k r)) false (ieq b 0)
  | .and => wrapK k (Int.ofNat (Nat.land (toU k a) (toU k b))) K
  | .or => wrapK k (Int.ofNat (Nat.lor (toU k a) (toU k b))) K
  | .xor => wrapK k (Int.ofNat (Nat.xor (toU k a) (toU k b))) K
  | .andNot => wrapK k (Int.ofNat (Nat.land (toU k a) (Nat.sub (Nat.sub (modOf k) 1) (toU k b)))) K
  | .eql => K (.bool (ieq a b))
  | .neq => K (.bool (Bool.not (ieq a b)))
  | .lss => K (.bool (ilt a b))
  | .leq => K (.bool (Bool.not (ilt b a)))
  | .gtr => K (.bool (ilt b a))
  | .geq => K (.bool (Bool.not (ilt a b)))
  | _ => false
noncomputable def fB (b : Bool) (K : Bool → Bool) : Bool := Bool.rec (motive := fun _ => Bool) (Bool.rec (motive := fun _ => Bool) (K false) (K true) b) (K b) Mode.sy
noncomputable def shiftA (op : BinOp) (k : IntKind) (a b : Int) (K : AV → Bool) : Bool :=
  match b with
  | .negSucc _ => false
  | .ofNat n => match op with
    | .shl => wrapK k (Int.mul a (Int.ofNat (Nat.pow 2 (shAmt k n)))) K
    | .shr => fI (Int.fdiv a (Int.ofNat (Nat.pow 2 (shAmt k n)))) fun r => K (.int k r)
    | _ => false
/-- the bytes' order -/
noncomputable def sltA (n : Nat) : Nat → Nat → Nat → Bool :=
  Nat.rec (motive := fun _ => Nat → Nat → Nat → Bool) (fun _ n2 _ => Nat.blt 0 n2)
    (fun _ ih c1 n2 c2 => Nat.rec (motive := fun _ => Bool) false (fun m2 _ =>
      Bool.rec (motive := fun _ => Bool) (Nat.blt (Nat.mod c1 256) (Nat.mod c2 256)) (ih (Nat.div c1 256) m2 (Nat.div c2 256)) (Nat.beq (Nat.mod c1 256) (Nat.mod c2 256))) n2) n
noncomputable def seqA (l c l' c' : Nat) : Bool := Bool.rec (motive := fun _ => Bool) false (Nat.beq c c') (Nat.beq l l')
noncomputable def binStr (op : BinOp) (l c l' c' : Nat) (K : AV → Bool) : Bool :=
  match op with
  | .add => Bool.rec (motive := fun _ => Bool) false (fN (Nat.add l l') fun n => fN (Nat.add c (Nat.mul (Nat.pow 256 l) c')) fun d => K (.str n d)) (Nat.ble (Nat.add l l') 9223372036854775807)
  | .eql => fB (seqA l c l' c') fun b => K (.bool b)
  | .neq => fB (Bool.not (seqA l c l' c')) fun b => K (.bool b)
  | .lss => fB (sltA l c l' c') fun b => K (.bool b)
  | .gtr => fB (sltA l' c' l c) fun b => K (.bool b)
  | .leq => fB (Bool.not (sltA l' c' l c)) fun b => K (.bool b)
  | .geq => fB (Bool.not (sltA l c l' c')) fun b => K (.bool b)
  | _ => false

/-! types -/
inductive Sh where | agg (n : Nat) | one | bad
def shOf (P : Program) (t : TypeId) : Sh :=
  match P.underlying t, P.info? t with
  | some (.struct _), some i => .agg i.size
  | some (.array _ _), some i => .agg i.size
  | some _, some _ => .one
  | _, _ => .bad
def szOf (P : Program) (t : TypeId) : Option Nat := (P.info? t).map (·.size)

/-- the part of a struct or an array -/
noncomputable def partK (P : Program) (t : TypeId) (l : List AV) (off : Nat) (K : AV → Bool) : Bool :=
  match shOf P t with
  | .agg n => dropK l off fun r => takeK r n fun r => K (.agg r)
  | .one => dropK l off fun r => headK r K
  | .bad => false

/-! '==' beside numbers and strings -/
noncomputable def eqFields (P : Program) (ih : TypeId → AV → AV → (Bool → Bool) → Bool) (xs ys : List AV) (fs : List Field) : (Bool → Bool) → Bool :=
  List.rec (motive := fun _ => (Bool → Bool) → Bool) (fun K => K true)
    (fun f _ r K => Bool.rec (motive := fun _ => Bool)
      (partK P f.type xs f.offset fun a => partK P f.type ys f.offset fun b => ih f.type a b fun e => Bool.rec (motive := fun _ => Bool) (K false) (r K) e)
      (r K) (f.name == "_")) fs
noncomputable def eqStep (P : Program) (ih : TypeId → AV → AV → (Bool → Bool) → Bool) (t : TypeId) (x y : AV) (K : Bool → Bool) : Bool :=
      match P.underlying t with
      | some .bool => (match x, y with | .bool a, .bool b => K (Bool.rec (motive := fun _ => Bool) (Bool.not b) b a) | _, _ => false)
      | some (.int _) => (match x, y with | .int k a, .int k' b => Bool.rec (motive := fun _ => Bool) false (K (ieq a b)) (keq k k') | _, _ => false)
      | some .string => (match x, y with | .str l c, .str l' c' => K (seqA l c l' c') | _, _ => false)
      | some (.pointer _) => (match x, y with
        | .nilPtr, .nilPtr => K true
        | .nilPtr, .ptr _ _ => K false
        | .ptr _ _, .nilPtr => K false
        | _, _ => false)
      | some (.interface _) => (match x, y with
        | .nilIface, .nilIface => K true
        | .nilIface, .iface _ _ => K false
        | .iface _ _, .nilIface => K false
        | _, _ => false)
      | some (.struct fs) => (match x, y with | .agg xs, .agg ys => Bool.rec (motive := fun _ => Bool) (eqFields P ih xs ys fs.toList K) false (P.stoodInHeld t) | _, _ => false)
      | some (.slice _) => (match x, y with
        | .nilSlice, .nilSlice => K true
        | .nilSlice, .slice _ _ _ _ _ => K false
        | .slice _ _ _ _ _, .nilSlice => K false
        | _, _ => false)
      | some (.map _ _) => (match x, y with
        | .nilMap, .nilMap => K true
        | .nilMap, .map _ => K false
        | .map _, .nilMap => K false
        | _, _ => false)
      | some (.func _ _ _) => (match x, y with
        | .nilFunc, .nilFunc => K true
        | .nilFunc, .func _ _ _ => K false
        | .func _ _ _, .nilFunc => K false
        | _, _ => false)
      | _ => false
noncomputable def eqA (P : Program) (d : Nat) : TypeId → AV → AV → (Bool → Bool) → Bool :=
  Nat.rec (motive := fun _ => TypeId → AV → AV → (Bool → Bool) → Bool) (fun _ _ _ _ => false) (fun _ ih => eqStep P ih) d

def isNilIface (a : AV) : Bool := match a with | .nilIface => true | _ => false
def isAggA (a : AV) : Bool := match a with | .agg _ => true | _ => false
/-- no guard of the comparison speaks -/
noncomputable def guardOk (P : Program) (t : TypeId) (x _y : AV) : Bool :=
  Bool.rec (motive := fun _ => Bool) (Bool.rec (motive := fun _ => Bool) true (Bool.not (P.eqGuardType P.depth t)) (isAggA x)) false (isNilIface x)
noncomputable def binGen (P : Program) (op : BinOp) (t : TypeId) (x y : AV) (K : AV → Bool) : Bool :=
  Bool.rec (motive := fun _ => Bool) false
    (match op with
    | .eql => eqA P 10000 t x y fun b => fB b fun b => K (.bool b)
    | .neq => eqA P 10000 t x y fun b => fB (Bool.not b) fun b => K (.bool b)
    | _ => false) (guardOk P t x y)
def isShift (op : BinOp) : Bool := match op with | .shl | .shr => true | _ => false
noncomputable def binA (P : Program) (op : BinOp) (t : TypeId) (x y : AV) (K : AV → Bool) : Bool :=
  match x, y with
  | .int k a, .int k' b => Bool.rec (motive := fun _ => Bool) (Bool.rec (motive := fun _ => Bool) false (binInt op k a b K) (keq k k')) (shiftA op k a b K) (isShift op)
  | .str l c, .str l' c' => binStr op l c l' c' K
  | .int _ _, _ => false
  | .str _ _, _ => false
  | x, y => binGen P op t x y K
noncomputable def unA (op : UnOp) (x : AV) (K : AV → Bool) : Bool :=
  match op, x with
  | .neg, .int k n => wrapK k (Int.neg n) K
  | .not, .bool b => K (.bool (Bool.not b))
  | .xor, .int k n => wrapK k (Int.ofNat (Nat.sub (Nat.sub (modOf k) 1) (toU k n))) K
  | _, _ => false
noncomputable def convPure (P : Program) (src dst : TypeId) (x : AV) (K : AV → Bool) : Bool :=
  match P.underlying src, P.underlying dst, x with
  | some _, some (.int k), .int _ n => wrapK k n K
  | some _, some .string, .str l c => K (.str l c)
  | _, _, _ => false

/-! building -/
noncomputable def partPut (a : AV) (off size : Nat) (c : List AV) (K : List AV → Bool) : Bool :=
  match a with
  | .agg l => Bool.rec (motive := fun _ => Bool) false (putK l off c K) (Nat.beq (lenL l) size)
  | v => Bool.rec (motive := fun _ => Bool) false (putK [v] off c K) (Nat.beq 1 size)
noncomputable def fillK (place : Nat → Option (Nat × Nat)) (ps : List (Nat × AV)) : List AV → (List AV → Bool) → Bool :=
  List.rec (motive := fun _ => List AV → (List AV → Bool) → Bool) (fun c K => K c)
    (fun p _ ih c K => match place p.1 with
      | none => false
      | some (off, size) => partPut p.2 off size c fun c => ih c K) ps
def cellsA (a : AV) : List AV := match a with | .agg l => l | v => [v]
noncomputable def zeroK (P : Program) (t : TypeId) (K : AV → Bool) : Bool :=
  match P.info? t with
  | some i => (match i.zero with | some v => ofVal v K | none => false)
  | none => false
noncomputable def evParts (fr : Fr) (l : List (Nat × Operand)) : (List (Nat × AV) → Bool) → Bool := mapK (fun p K => ev fr p.2 fun a => K (p.1, a)) l
def placesOf (P : Program) (fs : Array Field) : Option (List (Nat × Nat)) := fs.toList.mapM fun f => (P.info? f.type).map fun i => (f.offset, i.size)
noncomputable def buildA (P : Program) (fr : Fr) (t : TypeId) (parts : List (Nat × Operand)) (K : AV → Bool) : Bool :=
  zeroK P t fun z => match P.underlying t with
    | some (.struct fs) => (match placesOf P fs with
      | some pl => evParts fr parts fun ps => fillK (fun i => pl[i]?) ps (cellsA z) fun c => K (.agg c)
      | none => false)
    | some (.array _ e) => (match szOf P e with
      | some sz => evParts fr parts fun ps => fillK (fun i => some (Nat.mul i sz, sz)) ps (cellsA z) fun c => K (.agg c)
      | none => false)
    | _ => false

/-! slices, indexes -/
noncomputable def natOf (a : AV) (K : Nat → Bool) : Bool := match a with | .int _ (.ofNat n) => K n | _ => false
/-- a bound that is not above 'y', or nothing: 'd' -/
noncomputable def boundK (fr : Fr) (x : Option Operand) (d y : Nat) (K : Nat → Bool) : Bool :=
  match x with
  | none => K d
  | some x => ev fr x fun a => natOf a fun n => Bool.rec (motive := fun _ => Bool) false (K n) (Nat.ble n y)
noncomputable def boundsK (fr : Fr) (lo hi : Option Operand) (len cap : Nat) (K : Nat → Nat → Bool) : Bool :=
  boundK fr hi len cap fun h => boundK fr lo 0 h fun l => K l h
noncomputable def sliceA (P : Program) (fr : Fr) (t : TypeId) (x : AV) (lo hi : Option Operand) (K : AV → Bool) : Bool :=
  match P.underlying t, x with
  | some .string, .str n c => boundsK fr lo hi n n fun l h => fN (Nat.sub h l) fun n => fN (Nat.mod (Nat.div c (Nat.pow 256 l)) (Nat.pow 256 (Nat.sub h l))) fun c => K (.str n c)
  | some (.slice e), .nilSlice => (match szOf P e with
    | none => false
    | some _ => boundsK fr lo hi 0 0 fun _ _ => K .nilSlice)
  | some (.slice e), .slice b o len cap op => (match szOf P e with
    | none => false
    | some sz => Bool.rec (motive := fun _ => Bool) false (boundsK fr lo hi len cap fun l h => Bool.rec (motive := fun _ => Bool)
        (fN (Nat.add o (Nat.mul l sz)) fun o => fN (Nat.sub h l) fun n => fN (Nat.sub cap l) fun c => K (.slice b o n c op))
        (Bool.rec (motive := fun _ => Bool) (K (.slice b o 0 0 false)) false op) (Nat.beq cap l)) (Nat.ble len cap))
  | some (.slice e), .dslice n sz el => (match szOf P e with
    | none => false
    | some s => Bool.rec (motive := fun _ => Bool) false (boundsK fr lo hi n n fun l h => fN (Nat.sub h l) fun m => K (.dslice m sz (fun i => el (Nat.add i l)))) (Nat.beq s sz))
  | some (.array n e), .ptr b o => (match szOf P e with
    | none => false
    | some sz => boundsK fr lo hi n n fun l h =>
      fN (Bool.rec (motive := fun _ => Nat) (Nat.add o (Nat.mul l sz)) o (Nat.beq n l)) fun o => fN (Nat.sub h l) fun k => fN (Nat.sub n l) fun c => K (.slice b o k c false))
  | _, _ => false
noncomputable def indexAddrA (P : Program) (t : TypeId) (x ix : AV) (K : AV → Bool) : Bool :=
  natOf ix fun i => match P.underlying t, x with
    | some (.array n e), .ptr b o => (match szOf P e with
      | some sz => Bool.rec (motive := fun _ => Bool) false (fN (Nat.add o (Nat.mul i sz)) fun o => K (.ptr b o)) (Nat.blt i n)
      | none => false)
    | some (.slice e), .slice b o len _ _ => (match szOf P e with
      | some sz => Bool.rec (motive := fun _ => Bool) false (fN (Nat.add o (Nat.mul i sz)) fun o => K (.ptr b o)) (Nat.blt i len)
      | none => false)
    | some (.slice e), .dslice n sz el => (match szOf P e with
      | some s => Bool.rec (motive := fun _ => Bool) false (Bool.rec (motive := fun _ => Bool) false (K (.dptr (el i) 0)) (Nat.blt i n)) (Nat.beq s sz)
      | none => false)
    | _, _ => false
noncomputable def indexA (P : Program) (t : TypeId) (x ix : AV) (K : AV → Bool) : Bool :=
  natOf ix fun i => match P.underlying t, x with
    | some .string, .str n c => Bool.rec (motive := fun _ => Bool) false (fN (Nat.mod (Nat.div c (Nat.pow 256 i)) 256) fun b => K (.int .u8 (Int.ofNat b))) (Nat.blt i n)
    | some (.array n e), .agg l => (match szOf P e with
      | some sz => Bool.rec (motive := fun _ => Bool) false (partK P e l (Nat.mul i sz) K) (Nat.blt i n)
      | none => false)
    | _, _ => false
noncomputable def fieldAddrA (P : Program) (s : TypeId) (x : AV) (f : Nat) (K : AV → Bool) : Bool :=
  match P.underlying s, x with
  | some (.struct fs), .ptr b o => (match fs[f]? with
    | some fd => (match szOf P fd.type with
      | some (_ + 1) => fN (Nat.add o fd.offset) fun o => K (.ptr b o)
      | _ => false)
    | none => false)
  | some (.struct fs), .dptr c o => (match fs[f]? with
    | some fd => (match szOf P fd.type with
      | some (_ + 1) => fN (Nat.add o fd.offset) fun o => K (.dptr c o)
      | _ => false)
    | none => false)
  | _, _ => false
noncomputable def fieldA (P : Program) (s : TypeId) (x : AV) (f : Nat) (K : AV → Bool) : Bool :=
  match P.underlying s, x with
  | some (.struct fs), .agg l => (match fs[f]? with
    | some fd => partK P fd.type l fd.offset K
    | none => false)
  | _, _ => false
noncomputable def minStep (mx : Bool) (a y : AV) (K : AV → Bool) : Bool :=
  match a, y with
  | .int k (.ofNat x), .int _ (.ofNat y) => fN (Bool.rec (motive := fun _ => Nat) x y (Bool.rec (motive := fun _ => Bool) (Nat.blt y x) (Nat.blt x y) mx)) fun n => K (.int k (.ofNat n))
  | .int k x, .int _ y => K (.int k (Bool.rec (motive := fun _ => Int) x y (Bool.rec (motive := fun _ => Bool) (ilt y x) (ilt x y) mx)))
  | _, _ => false
noncomputable def minA (mx : Bool) (l : List AV) : AV → (AV → Bool) → Bool :=
  List.rec (motive := fun _ => AV → (AV → Bool) → Bool) (fun a K => K a) (fun y _ ih a K => minStep mx a y fun r => ih r K) l

/-! operations that look at no memory -/
noncomputable def lenPure (P : Program) (t : TypeId) (a : AV) (K : AV → Bool) : Bool :=
  match P.underlying t, a with
  | some .string, .str n _ => K (.int .i64 (Int.ofNat n))
  | some (.slice _), .nilSlice => K (.int .i64 (Int.ofNat 0))
  | some (.slice _), .slice _ _ n _ _ => K (.int .i64 (Int.ofNat n))
  | some (.slice _), .dslice n _ _ => K (.int .i64 (Int.ofNat n))
  | some (.array n _), _ => K (.int .i64 (Int.ofNat n))
  | some (.map _ _), .nilMap => K (.int .i64 (Int.ofNat 0))
  | _, _ => false

inductive Cls where | pure | load | state
def clsOf (P : Program) (o : Op) : Cls :=
  match o with
  | .move _ | .assign _ | .pick .. | .build .. | .nilCheck _ | .binOp .. | .unOp .. | .makeInterface .. | .makeFunc .. | .slice .. | .fieldAddr .. | .field .. | .indexAddr .. | .index .. | .extract .. => .pure
  | .convert s d _ => (match P.underlying s, P.underlying d with
    | some (.slice _), _ => .state
    | some .string, some (.slice _) => .state
    | _, _ => .pure)
  | .load .. => .load
  | .call c => (match c.callee with
    | .builtin .min | .builtin .max => .pure
    | .builtin .len => (match P.underlying (c.argTypes.getD 0 0) with | some (.map _ _) => .state | _ => .pure)
    | _ => .state)
  | _ => .state

noncomputable def opPure (P : Program) (op : Op) (fr : Fr) (K : AV → Bool) : Bool :=
  match op with
  | .move x => ev fr x K
  | .assign x => ev fr x K
  | .pick c a b => ev fr c fun v => (match v with | .bool c => Bool.rec (motive := fun _ => Bool) (ev fr b K) (ev fr a K) c | _ => false)
  | .build t parts => buildA P fr t parts.toList K
  | .nilCheck x => ev fr x fun v => (match v with
    | .ptr b o => K (.ptr b o)
    | .dptr c o => K (.dptr c o)
    | .iface t v => K (.iface t v)
    | _ => false)
  | .binOp op t x y _ => ev fr x fun a => ev fr y fun b => binA P op t a b K
  | .unOp op _ x => ev fr x fun a => unA op a K
  | .convert s d x => ev fr x fun a => convPure P s d a K
  | .makeInterface t x => ev fr x fun a => (match P.underlying t with | some (.interface _) => false | some _ => K (.iface t a) | none => false)
  | .makeFunc fn first cap => evs fr first.toList fun a => evs fr cap.toList fun b => K (.func fn a b)
  | .slice t x lo hi mx => (match mx with | none => ev fr x fun a => sliceA P fr t a lo hi K | some _ => false)
  | .fieldAddr s x f => ev fr x fun a => fieldAddrA P s a f K
  | .field s x f => ev fr x fun a => fieldA P s a f K
  | .indexAddr t x ix => ev fr x fun a => ev fr ix fun i => indexAddrA P t a i K
  | .index t x ix => ev fr x fun a => ev fr ix fun i => indexA P t a i K
  | .extract x i => ev fr x fun a => (match a with | .tuple l => dropK l i fun r => headK r K | _ => false)
  | .call c => (match c.callee with
    | .builtin .len => (match c.argTypes[0]? with | some t => evs fr c.args.toList fun l => headK l fun a => lenPure P t a K | none => false)
    | .builtin .min => evs fr c.args.toList fun l => (match l with | [] => false | x :: r => minA false r x K)
    | .builtin .max => evs fr c.args.toList fun l => (match l with | [] => false | x :: r => minA true r x K)
    | _ => false)
  | _ => false

/-! loads -/
noncomputable def loadA (P : Program) (t : TypeId) (a : AV) (M : Mem) (K : AV → Bool) : Bool :=
  match a with
  | .ptr b o => (match M.t.get b with
    | some (.row c _ _) => partK P t c o K
    | _ => false)
  | .dptr c o => partK P t (toAVs c) o K
  | _ => false

/-! operations on memory -/
noncomputable def newB (b : Blk) (M : Mem) (K : Nat → Mem → Bool) : Bool := T.set b M.t M.nx fun t => fN (Nat.succ M.nx) fun n => K M.nx ⟨t, n⟩
noncomputable def setB (i : Nat) (b : Blk) (M : Mem) (K : Mem → Bool) : Bool := T.set b M.t i fun t => K ⟨t, M.nx⟩
def isSc (a : AV) : Bool := match a with | .agg _ => false | .tuple _ => false | _ => true
noncomputable def allSc (l : List AV) : Bool := List.rec (motive := fun _ => Bool) true (fun a _ r => Bool.rec (motive := fun _ => Bool) false r (isSc a)) l
noncomputable def storeCells (b o : Nat) (vs : List AV) (M : Mem) (K : Mem → Bool) : Bool :=
  match M.t.get b with
  | some (.row c op sz) => Bool.rec (motive := fun _ => Bool) false (putK vs o c fun c => setB b (.row c op sz) M K) (allSc vs)
  | _ => false
noncomputable def rowOf (b o n : Nat) (M : Mem) (K : List AV → Bool) : Bool :=
  match M.t.get b with
  | some (.row c _ _) => dropK c o fun r => takeK r n K
  | _ => false
/-- the cells of the first n elements -/
noncomputable def srcCells (sz : Nat) (a : AV) (M : Mem) (K : Nat → List AV → Bool) : Bool :=
  match a with
  | .nilSlice => K 0 []
  | .slice b o n _ _ => rowOf b o (Nat.mul n sz) M fun l => K n l
  | .dslice n s el => Bool.rec (motive := fun _ => Bool) false (K n (toAVs (firstEls el n))) (Nat.beq s sz)
  | _ => false
/-- the slice reaches to the end of what is known of an open row of elements of its size -/
noncomputable def openOk (b cap sz : Nat) (M : Mem) : Bool :=
  match M.t.get b with
  | some (.row c op s) => Bool.rec (motive := fun _ => Bool) false (Bool.rec (motive := fun _ => Bool) false (Nat.beq (lenL c) (Nat.mul cap sz)) (Nat.beq s sz)) op
  | _ => false
/-- the element's zero has as many cells as the element -/
def elemOk (P : Program) (e : TypeId) : Bool :=
  match P.info? e with
  | some i => (match i.zero with | some v => Nat.beq v.cells.size i.size | none => false)
  | none => false
/-- an append's new length is small -/
def smallOk (P : Program) (e : TypeId) (need : Nat) : Bool :=
  match P.info? e with
  | some i => Nat.ble (Nat.mul need i.bytes) 140737488355328
  | none => false
noncomputable def growA (P : Program) (e : TypeId) (sz need : Nat) (c : List AV) (M : Mem) (K : AV → Mem → Bool) : Bool :=
  Bool.rec (motive := fun _ => Bool) false (Bool.rec (motive := fun _ => Bool) false (Bool.rec (motive := fun _ => Bool) false (newB (.row c true sz) M fun r M => K (.slice r 0 need need true) M) (elemOk P e)) (smallOk P e need)) (Nat.ble need 9223372036854775807)
noncomputable def appendA (P : Program) (e : TypeId) (s x : AV) (M : Mem) (K : AV → Mem → Bool) : Bool :=
  match szOf P e with
  | none => false
  | some sz => srcCells sz x M fun n new =>
    match s with
    | .nilSlice => Bool.rec (motive := fun _ => Bool) (growA P e sz n new M K) (K .nilSlice M) (Nat.beq n 0)
    | .slice b o len cap op => fN (Nat.add len n) fun need => Bool.rec (motive := fun _ => Bool)
      (rowOf b o (Nat.mul len sz) M fun old => appK old new fun c => Bool.rec (motive := fun _ => Bool)
        (growA P e sz need c M K)
        (Bool.rec (motive := fun _ => Bool) false (Bool.rec (motive := fun _ => Bool) false (Bool.rec (motive := fun _ => Bool) false (setB b .dead M fun M => growA P e sz need c M K) (allSc new)) (openOk b cap sz M)) (Nat.beq o 0)) op)
      (storeCells b (Nat.add o (Nat.mul len sz)) new M fun M => K (.slice b o need cap op) M) (Nat.ble need cap)
    | _ => false
noncomputable def copyA (P : Program) (e : TypeId) (d x : AV) (M : Mem) (K : AV → Mem → Bool) : Bool :=
  match szOf P e, d with
  | some sz, .slice b o dl _ _ => (match x with
    | .nilSlice => K (.int .i64 0) M
    | .slice b' o' n _ _ => fN (Bool.rec (motive := fun _ => Nat) dl n (Nat.ble n dl)) fun n => rowOf b' o' (Nat.mul n sz) M fun cs => storeCells b o cs M fun M => K (.int .i64 (Int.ofNat n)) M
    | _ => false)
  | _, _ => false

noncomputable def findA (P : Program) (k : TypeId) (key : AV) (es : List (AV × AV)) : (Option AV → Bool) → Bool :=
  List.rec (motive := fun _ => (Option AV → Bool) → Bool) (fun K => K none)
    (fun e _ ih K => eqA P 2 k key e.1 fun b => Bool.rec (motive := fun _ => Bool) (ih K) (K (some e.2)) b) es
noncomputable def updA (P : Program) (k : TypeId) (key v : AV) (es : List (AV × AV)) : (List (AV × AV) → Bool) → Bool :=
  List.rec (motive := fun _ => (List (AV × AV) → Bool) → Bool) (fun K => K [(key, v)])
    (fun e l ih K => eqA P 2 k key e.1 fun b => Bool.rec (motive := fun _ => Bool) (ih fun r => K (e :: r)) (K ((key, v) :: l)) b) es
def plainKey (P : Program) (k : TypeId) : Bool := match P.underlying k with | some (.int _) | some .string | some .bool => true | _ => false
noncomputable def lookupA (P : Program) (t : TypeId) (m key : AV) (ok : Bool) (M : Mem) (K : AV → Bool) : Bool :=
  match P.underlying t with
  | some (.map k e) => Bool.rec (motive := fun _ => Bool) false
    (let fin (r : Option AV) : Bool := (match r with
      | some v => Bool.rec (motive := fun _ => Bool) (K v) (K (.tuple [v, .bool true])) ok
      | none => zeroK P e fun z => Bool.rec (motive := fun _ => Bool) (K z) (K (.tuple [z, .bool false])) ok)
    match m with
    | .nilMap => fin none
    | .map b => (match M.t.get b with | some (.map es) => findA P k key es fin | _ => false)
    | _ => false) (plainKey P k)
  | _ => false
noncomputable def mapUpdA (P : Program) (t : TypeId) (m key v : AV) (M : Mem) (K : Mem → Bool) : Bool :=
  match P.underlying t, m with
  | some (.map k _), .map b => Bool.rec (motive := fun _ => Bool) false (match M.t.get b with
    | some (.map es) => updA P k key v es fun es => setB b (.map es) M K
    | _ => false) (plainKey P k)
  | _, _ => false

/-! the library's functions without a body -/
inductive Ext where | indexByte | cmpString | add64 | noEscape | sum (v : AV) | tab (l : List (List AV × AV))
noncomputable def findByte (n : Nat) : Nat → Nat → Nat → Int :=
  Nat.rec (motive := fun _ => Nat → Nat → Nat → Int) (fun _ _ _ => -1)
    (fun _ ih c b i => Bool.rec (motive := fun _ => Int) (ih (Nat.div c 256) b (Nat.succ i)) (Int.ofNat i) (Nat.beq (Nat.mod c 256) b)) n
noncomputable def extA (x : Ext) (args : List AV) (K : AV → Bool) : Bool :=
  match x with
  | .indexByte => (match args with
    | [.str n c, .int .u8 (.ofNat b)] => Bool.rec (motive := fun _ => Bool) false (fI (findByte n c b 0) fun i => K (.int .i64 i)) (Nat.blt b 256)
    | _ => false)
  | .cmpString => (match args with
    | [.str n c, .str n' c'] => Bool.rec (motive := fun _ => Bool)
      (Bool.rec (motive := fun _ => Bool) (K (.int .i64 1)) (K (.int .i64 (-1))) (sltA n c n' c')) (K (.int .i64 0)) (seqA n c n' c')
    | _ => false)
  | .add64 => (match args with
    | [.int .u64 (.ofNat a), .int .u64 (.ofNat b), .int .u64 (.ofNat c)] => Bool.rec (motive := fun _ => Bool) false (fN (Nat.mod (Nat.add (Nat.add a b) c) 18446744073709551616) fun s => fN (Nat.div (Nat.add (Nat.add a b) c) 18446744073709551616) fun r =>
      K (.tuple [.int .u64 (Int.ofNat s), .int .u64 (Int.ofNat r)])) (Nat.blt c 2)
    | _ => false)
  | .noEscape => (match args with | [x] => K x | _ => false)
  | .sum _ => false
  | .tab _ => false

noncomputable def callV (call : FuncId → List AV → Mem → (AV → Mem → Bool) → Bool) (f : AV) (args : List AV) (M : Mem) (K : AV → Mem → Bool) : Bool :=
  match f with
  | .func (.func f) first cap => appK args cap fun l => appK first l fun l => call f l M K
  | _ => false

def undAt (P : Program) (ts : Array TypeId) (i : Nat) : Option TypeDesc := match ts[i]? with | some t => P.underlying t | none => none
noncomputable def opBuiltin (P : Program) (b : Builtin) (ts : Array TypeId) (args : List AV) (M : Mem) (K : AV → Mem → Bool) : Bool :=
  match b with
  | .append => (match args with
    | [s, x] => (match undAt P ts 0, undAt P ts 1 with
      | some (.slice e), some (.slice _) => appendA P e s x M K
      | _, _ => false)
    | _ => false)
  | .copy => (match args with
    | [d, x] => (match undAt P ts 0 with
      | some (.slice e) => copyA P e d x M K
      | _ => false)
    | _ => false)
  | .len => (match args with
    | [.map b] => (match undAt P ts 0 with
      | some (.map _ _) => (match M.t.get b with | some (.map es) => fN (lenL es) fun n => K (.int .i64 (Int.ofNat n)) M | _ => false)
      | _ => false)
    | _ => false)
  | _ => false

/-- the bytes of cells, as a string's number -/
noncomputable def byteStep (a : AV) (r : (Nat → Bool) → Bool) (K : Nat → Bool) : Bool :=
  match a with
  | .int .u8 (.ofNat b) => Bool.rec (motive := fun _ => Bool) false (r fun c => fN (Nat.add b (Nat.mul 256 c)) K) (Nat.blt b 256)
  | _ => false
noncomputable def bytesK (l : List AV) : (Nat → Bool) → Bool :=
  List.rec (motive := fun _ => (Nat → Bool) → Bool) (fun K => K 0) (fun a _ ih K => byteStep a ih K) l
noncomputable def convMem (P : Program) (src dst : TypeId) (x : AV) (M : Mem) (K : AV → Mem → Bool) : Bool :=
  match P.underlying src, P.underlying dst with
  | some (.slice e), some .string => (match P.underlying e with
    | some (.int .u8) => (match x with
      | .nilSlice => K (.str 0 0) M
      | .slice b o n _ _ => rowOf b o n M fun l => bytesK l fun c => K (.str n c) M
      | _ => false)
    | _ => false)
  | _, _ => false
noncomputable def nextA (b : Nat) (M : Mem) (K : AV → Mem → Bool) : Bool :=
  match M.t.get b with
  | some (.siter l c p) => Bool.rec (motive := fun _ => Bool) (K (.tuple [.bool false]) M)
    (fN (Nat.mod (Nat.div c (Nat.pow 256 p)) 256) fun x => Bool.rec (motive := fun _ => Bool) false
      (fN (Nat.succ p) fun p' => setB b (.siter l c p') M fun M => K (.tuple [.bool true, .int .i64 (Int.ofNat p), .int .i32 (Int.ofNat x)]) M) (Nat.blt x 128)) (Nat.blt p l)
  | _ => false

/-- the cells of a slice's new row -/
noncomputable def buildCells (P : Program) (t : TypeId) (len : Nat) (parts : List (Nat × Operand)) (fr : Fr) (K : List AV → Nat → Bool) : Bool :=
  match P.underlying t with
  | some (.slice e) => (match szOf P e with
    | some sz => Bool.rec (motive := fun _ => Bool) false
      (zeroK P e fun z => Bool.rec (motive := fun _ => Bool) false (repK (cellsA z) len fun c => evParts fr parts fun ps => fillK (fun i => some (Nat.mul i sz, sz)) ps c fun c => K c sz) (elemOk P e)) (Nat.ble (Nat.mul len sz) 16777216)
    | none => false)
  | _ => false
def datOf (a : AV) : Option Dat :=
  match a with
  | .bool b => some (.bool b)
  | .int k n => some (.int k n)
  | .str l c => some (.str l c)
  | .nilPtr => some .nilPtr
  | .nilMap => some .nilMap
  | .nilFunc => some .nilFunc
  | .nilIface => some .nilIface
  | .dslice n sz el => some (.slice n sz el)
  | _ => none
noncomputable def datsK (l : List AV) : (List Dat → Bool) → Bool :=
  List.rec (motive := fun _ => (List Dat → Bool) → Bool) (fun K => K []) (fun a _ ih K => match datOf a with | some d => ih fun r => K (d :: r) | none => false) l
noncomputable def chunkN {α : Type} (sz n : Nat) : List α → List (List α) := Nat.rec (motive := fun _ => List α → List (List α)) (fun _ => []) (fun _ ih l => List.take sz l :: ih (List.drop sz l)) n
/-- a new slice that is never written: it stands still -/
noncomputable def stillK (P : Program) (op : Op) (fr : Fr) (K : AV → Bool) : Bool :=
  match op with
  | .buildSlice t len parts => buildCells P t len parts.toList fr fun c sz => datsK c fun ds => Bool.rec (motive := fun _ => Bool) false (K (.dslice len sz fun i => List.getD (chunkN sz len ds) i [])) (Nat.beq (lenL ds) (Nat.mul len sz))
  | _ => false

noncomputable def opState (P : Program) (call : FuncId → List AV → Mem → (AV → Mem → Bool) → Bool) (op : Op) (fr : Fr) (M : Mem) (K : AV → Mem → Bool) : Bool :=
  match op with
  | .alloc t => zeroK P t fun z => newB (.row (cellsA z) false 1) M fun r M => K (.ptr r 0) M
  | .box _ x => ev fr x fun z => newB (.row (cellsA z) false 1) M fun r M => K (.ptr r 0) M
  | .buildSlice t len parts => Bool.rec (motive := fun _ => Bool) (buildCells P t len parts.toList fr fun c sz => newB (.row c false sz) M fun r M => K (.slice r 0 len len false) M)
    (stillK P (.buildSlice t len parts) fr fun v => K v M) Mode.st
  | .store t a x => ev fr a fun a => (match a with
    | .ptr b o => ev fr x fun v => Bool.rec (motive := fun _ => Bool) false (storeCells b o (cellsA v) M fun M => K .undef M)
        (match szOf P t with | some sz => Nat.beq (lenL (cellsA v)) sz | none => false)
    | _ => false)
  | .makeMap _ r => (match r with | none => newB (.map []) M fun r M => K (.map r) M | some _ => false)
  | .makeSlice t l c => (match P.underlying t with
    | some (.slice e) => (match P.info? e with
      | some i => ev fr l fun l => natOf l fun l => ev fr c fun c => natOf c fun c => Bool.rec (motive := fun _ => Bool) false (Bool.rec (motive := fun _ => Bool) false
        (zeroK P e fun z => Bool.rec (motive := fun _ => Bool) false (repK (cellsA z) c fun cs => newB (.row cs false i.size) M fun r M => K (.slice r 0 l c false) M) (elemOk P e))
        (Bool.rec (motive := fun _ => Bool) false (smallOk P e c) (Nat.ble c 9223372036854775807))) (Nat.ble l c)
      | none => false)
    | _ => false)
  | .lookup t x ix ok => ev fr x fun m => ev fr ix fun k => lookupA P t m k ok M fun v => K v M
  | .mapUpdate t m k x => ev fr m fun m => ev fr k fun k => ev fr x fun v => mapUpdA P t m k v M fun M => K .undef M
  | .insert t m k x => ev fr m fun m => ev fr k fun k => ev fr x fun v => mapUpdA P t m k v M fun M => K .undef M
  | .convert s d x => ev fr x fun a => convMem P s d a M K
  | .range t x => ev fr x fun a => (match P.underlying t, a with
    | some .string, .str l c => newB (.siter l c 0) M fun r M => K (.ptr r 0) M
    | _, _ => false)
  | .next it s => ev fr it fun a => (match a with
    | .ptr b o => Bool.rec (motive := fun _ => Bool) false (Bool.rec (motive := fun _ => Bool) false (nextA b M K) s) (Nat.beq o 0)
    | _ => false)
  | .call c => (match c.callee with
    | .value g => ev fr g fun f => evs fr c.args.toList fun args => callV call f args M K
    | .builtin b => evs fr c.args.toList fun args => opBuiltin P b c.argTypes args M K
    | .invoke _ _ => false)
  | _ => false

noncomputable def opK (P : Program) (call : FuncId → List AV → Mem → (AV → Mem → Bool) → Bool) (op : Op) (fr : Fr) (M : Mem) (K : AV → Mem → Bool) : Bool :=
  match clsOf P op with
  | .pure => opPure P op fr fun v => K v M
  | .load => (match op with | .load t a => ev fr a fun a => loadA P t a M fun v => K v M | _ => false)
  | .state => opState P call op fr M K

noncomputable def putT (nt : Nat) (dst : Option Tmp) (v : AV) (fr : Fr) (K : Fr → Bool) : Bool :=
  match dst with
  | none => K fr
  | some d => Bool.rec (motive := fun _ => Bool) false (T.set v fr d K) (Nat.blt d nt)
/-- is the operation wanted? -/
noncomputable def wantK (ops : Array Oper) (g : Option (Nat × Bool)) (fr : Fr) (K : Bool → Bool) : Bool :=
  match g with
  | none => K true
  | some (j, want) => (match (ops[j]?).bind (·.dst) with
    | none => K false
    | some d => (match fr.get d with
      | some (.bool b) => Bool.rec (motive := fun _ => Bool) (K (Bool.not want)) (K want) b
      | some _ => K false
      | none => false))
noncomputable def runOps (P : Program) (call : FuncId → List AV → Mem → (AV → Mem → Bool) → Bool) (nt : Nat) (ops : Array Oper) (l : List Oper) : Fr → Mem → (Fr → Mem → Bool) → Bool :=
  List.rec (motive := fun _ => Fr → Mem → (Fr → Mem → Bool) → Bool) (fun fr M K => K fr M)
    (fun o _ ih fr M K => wantK ops o.guard fr fun b => Bool.rec (motive := fun _ => Bool)
      (putT nt o.dst .undef fr fun fr => ih fr M K)
      (opK P call o.op fr M fun v M => putT nt o.dst v fr fun fr => ih fr M K) b) l

/-! regions that draw their order -/
noncomputable def beq1 (a b : AV) : Bool :=
  match a, b with
  | .bool x, .bool y => Bool.rec (motive := fun _ => Bool) (Bool.not y) y x
  | .int k x, .int k' y => Bool.rec (motive := fun _ => Bool) false (ieq x y) (keq k k')
  | .str l c, .str l' c' => seqA l c l' c'
  | .nilPtr, .nilPtr => true
  | .ptr b o, .ptr b' o' => Bool.rec (motive := fun _ => Bool) false (Nat.beq o o') (Nat.beq b b')
  | .nilSlice, .nilSlice => true
  | .slice b o l c p, .slice b' o' l' c' p' => Bool.rec (motive := fun _ => Bool) false (Bool.rec (motive := fun _ => Bool) false (Bool.rec (motive := fun _ => Bool) false (Bool.rec (motive := fun _ => Bool) false (Bool.rec (motive := fun _ => Bool) (Bool.not p') p' p) (Nat.beq c c')) (Nat.beq l l')) (Nat.beq o o')) (Nat.beq b b')
  | .nilMap, .nilMap => true
  | .map b, .map b' => Nat.beq b b'
  | .nilFunc, .nilFunc => true
  | .nilIface, .nilIface => true
  | _, _ => false
noncomputable def beqL (l : List AV) : List AV → Bool :=
  List.rec (motive := fun _ => List AV → Bool) (fun m => match m with | [] => true | _ :: _ => false)
    (fun a _ ih m => match m with | [] => false | b :: m => Bool.rec (motive := fun _ => Bool) false (ih m) (beq1 a b)) l
noncomputable def beqA (a b : AV) : Bool :=
  match a, b with
  | .agg l, .agg m => beqL l m
  | a, b => beq1 a b
/-- what must stand ahead of an operation, as a number's bits -/
def ancOf (ops : Array Oper) (j : Nat) : Nat := (Region.before ops).getD j 0
def isAnc (ops : Array Oper) (i j : Nat) : Bool := Nat.testBit (ancOf ops j) i
/-- the order of the text is one of the orders, and operations that no edge orders do not touch one another's temporaries -/
def drawOk (ops : Array Oper) : Bool :=
  (List.range ops.size).all fun j => match ops[j]? with
    | none => false
    | some oj => oj.after.toList.all (fun e => !Region.binds .any e || Nat.blt e.on j) &&
      (List.range j).all fun i => match ops[i]? with
        | none => false
        | some oi => isAnc ops i j || oi.apart ops oj
structure Ld where
  j : Nat
  t : TypeId
  a : AV
  v : AV
  p : Option Nat
def sameP (p q : Option Nat) : Bool := match p, q with | none, none => true | some i, some j => Nat.beq i j | _, _ => false
def nextAnc (ops : Array Oper) (next : Option Nat) (j : Nat) : Bool := match next with | some s => isAnc ops s j | none => false
def prevAnc (ops : Array Oper) (prev : Option Nat) (j : Nat) : Bool := match prev with | some s => isAnc ops j s | none => false
/-- the load gives the same in whatever of these memories it may come -/
noncomputable def chkLoad (P : Program) (ops : Array Oper) (x : Ld) (Ms : List Mem) : List Nat → Option Nat → Bool :=
  List.rec (motive := fun _ => List Nat → Option Nat → Bool) (fun _ _ => true)
    (fun M _ ih ss next => Bool.rec (motive := fun _ => Bool) false (ih ss.tail ss.head?)
      (Bool.rec (motive := fun _ => Bool)
        (Bool.rec (motive := fun _ => Bool)
          (Bool.rec (motive := fun _ => Bool) (loadA P x.t x.a M fun v => beqA x.v v) true (nextAnc ops next x.j))
          true (prevAnc ops ss.head? x.j))
        true (sameP ss.head? x.p))) Ms
noncomputable def chkLoads (P : Program) (ops : Array Oper) (Ms : List Mem) (ss : List Nat) (ls : List Ld) : Bool :=
  match ss with
  | [] => true
  | _ :: _ => List.rec (motive := fun _ => Bool) true (fun x _ ih => Bool.rec (motive := fun _ => Bool) false ih (chkLoad P ops x Ms ss none)) ls
/-- a new slice, and an operation on memory that may come ahead of it or behind -/
def isBuild (op : Op) : Bool := match op with | .buildSlice .. => true | _ => false
def isState (P : Program) (op : Op) : Bool := match clsOf P op with | .state => true | _ => false
def floats (P : Program) (ops : Array Oper) (i : Nat) (op : Op) : Bool := isBuild op && (List.range ops.size).any fun j => match ops[j]? with
  | some o => isState P o.op && !(isBuild o.op) && !(Nat.beq i j) && !(isAnc ops i j) && !(isAnc ops j i)
  | none => false
/-- one operation of such a region -/
noncomputable def drawOp (P : Program) (call : FuncId → List AV → Mem → (AV → Mem → Bool) → Bool) (ops : Array Oper) (i : Nat) (op : Op) (fr : Fr) (M : Mem) (Ms : List Mem) (ss : List Nat) (ls : List Ld) (K : AV → Mem → List Mem → List Nat → List Ld → Bool) : Bool :=
  match clsOf P op with
  | .pure => opPure P op fr fun v => K v M Ms ss ls
  | .load => (match op with | .load t a => ev fr a fun a => loadA P t a M fun v => K v M Ms ss (⟨i, t, a, v, ss.head?⟩ :: ls) | _ => false)
  | .state => Bool.rec (motive := fun _ => Bool)
    (Bool.rec (motive := fun _ => Bool) false (opState P call op fr M fun v M => K v M (M :: Ms) (i :: ss) ls) (match ss.head? with | some s => isAnc ops s i | none => true))
    (stillK P op fr fun v => K v M Ms ss ls) (floats P ops i op)
noncomputable def runDraw (P : Program) (call : FuncId → List AV → Mem → (AV → Mem → Bool) → Bool) (nt : Nat) (ops : Array Oper) (l : List Oper) : Nat → Fr → Mem → List Mem → List Nat → List Ld → (Fr → Mem → Bool) → Bool :=
  List.rec (motive := fun _ => Nat → Fr → Mem → List Mem → List Nat → List Ld → (Fr → Mem → Bool) → Bool)
    (fun _ fr M Ms ss ls K => Bool.rec (motive := fun _ => Bool) false (K fr M) (chkLoads P ops Ms ss ls))
    (fun o _ ih i fr M Ms ss ls K => wantK ops o.guard fr fun b => Bool.rec (motive := fun _ => Bool)
      (putT nt o.dst .undef fr fun fr => ih (Nat.succ i) fr M Ms ss ls K)
      (drawOp P call ops i o.op fr M Ms ss ls fun v M Ms ss ls => putT nt o.dst v fr fun fr => ih (Nat.succ i) fr M Ms ss ls K) b) l

noncomputable def frInit (l : List AV) : Nat → Nat → Fr → (Fr → Bool) → Bool :=
  List.rec (motive := fun _ => Nat → Nat → Fr → (Fr → Bool) → Bool) (fun _ _ fr K => K fr)
    (fun a _ ih i nt fr K => Bool.rec (motive := fun _ => Bool) false (T.set a fr i fun fr => ih (Nat.succ i) nt fr K) (Nat.blt i nt)) l
noncomputable def resK (P : Program) (fr : Fr) (M : Mem) (l : List ResultVar) : (List AV → Bool) → Bool :=
  mapK (fun r K => match r with
    | .tmp t => getT fr t K
    | .cell a t => getT fr a fun p => loadA P t p M K) l
noncomputable def beqAs (l : List AV) : List AV → Bool :=
  List.rec (motive := fun _ => List AV → Bool) (fun m => match m with | [] => true | _ :: _ => false)
    (fun a _ ih m => match m with | [] => false | b :: m => Bool.rec (motive := fun _ => Bool) false (ih m) (beqA a b)) l
noncomputable def beqT (a b : AV) : Bool :=
  match a, b with
  | .tuple l, .tuple m => beqAs l m
  | a, b => beqA a b
noncomputable def findT (args : List AV) (l : List (List AV × AV)) : Option AV :=
  List.rec (motive := fun _ => Option AV) none (fun p _ ih => Bool.rec (motive := fun _ => Option AV) ih (some p.2) (beqAs args p.1)) l
/-- a function with a body whose answers are shown beforehand: without arguments, or for some arguments -/
noncomputable def ansOf (x : Ext) (args : List AV) : Option AV :=
  match x with
  | .sum v => (match args with | [] => some v | _ :: _ => none)
  | .tab l => findT args l
  | _ => none
noncomputable def ansX (x : Option Ext) (args : List AV) : Option AV := match x with | some x => ansOf x args | none => none
noncomputable def callBody (P : Program) (X : FuncId → Option Ext) (ex : Nat → Code → Fr → Mem → (AE → Fr → Mem → Bool) → Bool) (f : FuncId) (args : List AV) (M : Mem) (K : AV → Mem → Bool) : Bool :=
  match P.funcs[f]? with
  | none => false
  | some fn => (match fn.body, fn.name == "runtime.NumGoroutine" with
    | _, true => false
    | some c, false => (match ansX (X f) args with
      | some v => K v M
      | none => frInit args 0 fn.ntmps .nil fun fr => ex fn.ntmps c fr M fun o fr M => (match o with
        | .exit _ => false
        | _ => resK P fr M fn.results.toList fun l => (match l with | [v] => K v M | l => K (.tuple l) M)))
    | none, false => (match X f with | some x => extA x args fun v => K v M | none => false))

/-- a call whose answer is shown elsewhere: its arguments, what it does to known rows, its answer -/
structure SEnt where
  args : List AV
  ups : List (Nat × List AV × List AV)
  ans : AV
noncomputable def gateP (p : Prop) (b : Bool) : Bool := Bool.rec (motive := fun _ => Bool) false b (@decide p (Classical.propDecidable p))
noncomputable def upsK (l : List (Nat × List AV × List AV)) : Mem → (Mem → Bool) → Bool :=
  List.rec (motive := fun _ => Mem → (Mem → Bool) → Bool) (fun M K => K M)
    (fun u _ ih M K => match M.t.get u.1 with
      | some (.row r op sz) => Bool.rec (motive := fun _ => Bool) (gateP (r = u.2.1) (setB u.1 (.row u.2.2 op sz) M fun M => ih M K)) false op
      | _ => false) l
/-- the answers come one after another; the marks 1000, 1001 .. of the memory tell which have been given -/
noncomputable def answerK (S : List (FuncId × SEnt)) (f : FuncId) (args : List AV) (M : Mem) (K : AV → Mem → Bool) : Nat → Bool :=
  List.rec (motive := fun _ => Nat → Bool) (fun _ => false)
    (fun e _ ih j => match M.t.get j with
      | some .dead => ih (Nat.succ j)
      | _ => Bool.rec (motive := fun _ => Bool) false (setB j .dead M fun M => gateP (args = e.2.args) (upsK e.2.ups M fun M => K e.2.ans M)) (Nat.beq e.1 f)) S
noncomputable def inS (S : List (FuncId × SEnt)) (f : FuncId) : Bool := List.rec (motive := fun _ => Bool) false (fun e _ ih => Bool.rec (motive := fun _ => Bool) ih true (Nat.beq e.1 f)) S
noncomputable def callS (S : List (FuncId × SEnt)) (call : FuncId → List AV → Mem → (AV → Mem → Bool) → Bool) (f : FuncId) (args : List AV) (M : Mem) (K : AV → Mem → Bool) : Bool :=
  Bool.rec (motive := fun _ => Bool) (call f args M K) (answerK S f args M K 1000) (inS S f)

noncomputable def step (P : Program) (call : FuncId → List AV → Mem → (AV → Mem → Bool) → Bool) (ex : Nat → Code → Fr → Mem → (AE → Fr → Mem → Bool) → Bool) (nt : Nat) (c : Code) (fr : Fr) (M : Mem) (K : AE → Fr → Mem → Bool) : Bool :=
  match c with
  | .skip => K .normal fr M
  | .label _ => K .normal fr M
  | .ret => K .ret fr M
  | .exit id => K (.exit id) fr M
  | .seq a b => ex nt a fr M fun o fr M => (match o with | .normal => ex nt b fr M K | o => K o fr M)
  | .cond x a b => ev fr x fun v => (match v with | .bool t => Bool.rec (motive := fun _ => Bool) (ex nt b fr M K) (ex nt a fr M K) t | _ => false)
  | .block id b => ex nt b fr M fun o fr M => (match o with | .exit j => Bool.rec (motive := fun _ => Bool) (K (.exit j) fr M) (K .normal fr M) (Nat.beq j id) | o => K o fr M)
  | .loop b => ex nt b fr M fun o fr M => (match o with | .normal => ex nt (.loop b) fr M K | o => K o fr M)
  | .scope b => ex nt b fr M K
  | .region _ ops d => Bool.rec (motive := fun _ => Bool)
    (runOps P call nt ops ops.toList fr M fun fr M => K .normal fr M)
    (Bool.rec (motive := fun _ => Bool) false (runDraw P call nt ops ops.toList 0 fr M [M] [] [] fun fr M => K .normal fr M) (drawOk ops)) d
  | _ => false

noncomputable def exec (P : Program) (X : FuncId → Option Ext) (S : List (FuncId × SEnt)) (n : Nat) : Nat → Code → Fr → Mem → (AE → Fr → Mem → Bool) → Bool :=
  Nat.rec (motive := fun _ => Nat → Code → Fr → Mem → (AE → Fr → Mem → Bool) → Bool) (fun _ _ _ _ _ => false) (fun _ ih => step P (callS S (callBody P X ih)) ih) n
abbrev noS : List (FuncId × SEnt) := []

noncomputable def run (P : Program) (X : FuncId → Option Ext) (n : Nat) (f : FuncId) (args : List AV) (K : AV → Mem → Bool) : Bool := callBody P X (exec P X noS n) f args ⟨.nil, 0⟩ K

def isTrue (a : AV) : Bool := match a with | .bool b => b | _ => false
end Go.Eng
