/- The words of an abstract machine over plain values, and what they say of the model's memory. -/
import Derived.CallsIn
import Derived.OrdersIn
import Derived.WalkKit
import Derived.Deep.AppendLies
namespace Go.Proofs.Ytfnplmglpbihhaa.Vm
open Go Go.RowKit
set_option linter.unusedVariables false
set_option linter.unusedSimpArgs false

/-- Data: one cell's value, or a slice (its elements, each a list of cells). -/
inductive D where
  | v (x : Value)
  | sl (xss : List (List D))

def cellAt (xss : List (List D)) (i j : Nat) : Option D := (xss[i]?).bind fun xs => xs[j]?

/-- A cell's value reads as data, out of blocks that are kept. -/
inductive Rep (w : World) (K : Nat → Prop) : D → Value → Prop where
  | v {x : Value} : x.oneCell' = true → Rep w K (.v x) x
  | nil {c : Nat} {A : Option Addr} : c ≤ maxLen → Rep w K (.sl []) (.slice A 0 c)
  | sl {z b off c : Nat} {xss : List (List D)} (vs : Nat → Nat → Value) :
      K b → xss.length ≤ c → c ≤ maxLen → (∀ xs ∈ xss, xs.length = z) →
      (∀ i j d, cellAt xss i j = some d → w.cell? ⟨b, off + i * z + j, none⟩ = some (vs i j)) →
      (∀ i j d, cellAt xss i j = some d → Rep w K d (vs i j)) → Rep w K (.sl xss) (.slice (some ⟨b, off, none⟩) xss.length c)

def SameOn (K : Nat → Prop) (w w' : World) : Prop := ∀ b, K b → w'.heap[b]? = w.heap[b]?

theorem SameOn.cell {K : Nat → Prop} {w w' : World} (h : SameOn K w w') {b o : Nat} (hb : K b) : w'.cell? ⟨b, o, none⟩ = w.cell? ⟨b, o, none⟩ :=
  World.cell?_of_block (h b hb)

theorem Rep.mono {w w' : World} {K K' : Nat → Prop} {d : D} {v : Value} (h : Rep w K d v) (hK : ∀ b, K b → K' b) (hs : SameOn K w w') : Rep w' K' d v := by
  induction h with
  | v hx => exact .v hx
  | nil h => exact .nil h
  | sl vs hb hc hm hz hcell _ ih => exact .sl vs (hK _ hb) hc hm hz (fun i j d hd => (hs.cell hb).trans (hcell i j d hd)) (fun i j d hd => ih i j d hd)

theorem Rep.oneCell {w : World} {K : Nat → Prop} {d : D} {v : Value} (h : Rep w K d v) : v.oneCell' = true := by
  cases h with
  | v hx => exact hx
  | nil => rfl
  | sl => rfl

/-- What every slice is like that reads as data. -/
theorem Rep.slice {w : World} {K : Nat → Prop} {xss : List (List D)} {v : Value} (h : Rep w K (.sl xss) v) :
    ∃ A c, v = .slice A xss.length c ∧ xss.length ≤ c ∧ c ≤ maxLen := by
  cases h with
  | nil h => exact ⟨_, _, rfl, Nat.zero_le _, h⟩
  | sl vs hb hc hm _ _ _ => exact ⟨_, _, rfl, hc, hm⟩

abbrev Id := List Nat

/-- One cell of the machine: nothing known; data; a nil slice; a slice of one's own; an address into what is kept; one into a row of one's own; one of a variable of one's own; a function with captured variables. -/
inductive Leaf where
  | any
  | d (x : D)
  | nil
  | own (r : Id) (n : Nat)
  | at (xs : List D)
  | oat (r : Id) (n i j : Nat)
  | ptr (c : Id) (n off : Nat)
  | clo (f : Nat) (caps : List (Id × Nat))

inductive PV where
  | l (x : Leaf)
  | agg (xs : List Leaf)
  | tup (xs : List PV)

/-- What is of one's own: a row that may be appended to and stored into; one that is frozen; a variable. -/
inductive Ent where
  | none
  | row (e z : Nat) (xss : List (List D))
  | frz (z : Nat) (xss : List (List D))
  | cell (ls : List Leaf)

abbrev Mem := Id → Nat × Ent

structure St where
  n : Nat
  slot : Nat → PV
  mem : Mem

def Ent.z : Ent → Nat
  | .row _ z _ => z
  | .frz z _ => z
  | _ => 0

def RepLeaf (w : World) (K : Nat → Prop) (m : Mem) (G : Id → Value) : Leaf → Value → Prop
  | .any, _ => True
  | .d x, v => Rep w K x v
  | .nil, v => v = .slice none 0 0
  | .own r n, v => n ≤ (m r).1 ∧ ((m r).1 = n → v = G r)
  | .at xs, v => ∃ b off, v = .pointer (some ⟨b, off, none⟩) ∧ K b ∧ ∀ j d, xs[j]? = some d → ∃ u, w.cell? ⟨b, off + j, none⟩ = some u ∧ Rep w K d u
  | .oat r n i j, v => n ≤ (m r).1 ∧ ((m r).1 = n → ∃ b off len c, G r = .slice (some ⟨b, off, none⟩) len c ∧ v = .pointer (some ⟨b, off + i * (m r).2.z + j, none⟩))
  | .ptr c n off, v => n ≤ (m c).1 ∧ ∃ b, v = .pointer (some ⟨b, off, none⟩) ∧ ((m c).1 = n → G c = .pointer (some ⟨b, 0, none⟩))
  | .clo f caps, v => ∃ vs : Array Value, v = .func (.func f) #[] vs ∧ vs.size = caps.length ∧ ∀ (i : Nat) c n, caps[i]? = some (c, n) → n ≤ (m c).1 ∧ ∃ b, vs[i]? = some (.pointer (some ⟨b, 0, none⟩)) ∧ ((m c).1 = n → G c = .pointer (some ⟨b, 0, none⟩))

def RepPV1 (w : World) (K : Nat → Prop) (m : Mem) (G : Id → Value) : PV → Value → Prop
  | .l .any, _ => True
  | .l x, v => v.oneCell' = true ∧ RepLeaf w K m G x v
  | .agg xs, v => ∃ cs : Array Value, v = .agg cs ∧ cs.size = xs.length ∧ ∀ (i : Nat) x, xs[i]? = some x → ∃ u, cs[i]? = some u ∧ u.oneCell' = true ∧ RepLeaf w K m G x u
  | .tup _, _ => False

def RepPV (w : World) (K : Nat → Prop) (m : Mem) (G : Id → Value) : PV → Value → Prop
  | .tup xs, v => ∃ vs : Array Value, v = .tuple vs ∧ vs.size = xs.length ∧ ∀ (i : Nat) x, xs[i]? = some x → ∃ u, vs[i]? = some u ∧ RepPV1 w K m G x u
  | x, v => RepPV1 w K m G x v

/-- The cells of a row read as its elements. -/
def FlatRep (w : World) (K : Nat → Prop) (z : Nat) (flat : List Value) (xss : List (List D)) : Prop :=
  (∀ xs ∈ xss, xs.length = z) ∧ ∀ i j d, cellAt xss i j = some d → ∃ u, flat[i * z + j]? = some u ∧ Rep w K d u

def OwnRow (w : World) (K : Nat → Prop) (e z : Nat) (xss : List (List D)) (v : Value) : Prop :=
  ∃ flat, w.ownsRow 0 e z v xss.length flat ∧ FlatRep w K z flat xss ∧ ∀ u ∈ flat, u.oneCell' = true

def EntRep (w : World) (K : Nat → Prop) (m : Mem) (G : Id → Value) (B : Id → Option Nat) (id : Id) : Ent → Prop
  | .none => True
  | .row e z xss => OwnRow w K e z xss (G id) ∧ B id = (G id).ownBlock
  | .frz z xss => Rep w K (.sl xss) (G id) ∧ ∀ xs ∈ xss, xs.length = z
  | .cell ls => ∃ b cs T, G id = .pointer (some ⟨b, 0, none⟩) ∧ B id = some b ∧ w.heap[b]? = some (.cells cs T (0, 0)) ∧ cs.size = ls.length ∧
      ∀ (i : Nat) x, ls[i]? = some x → ∃ u, cs[i]? = some u ∧ u.oneCell' = true ∧ RepLeaf w K m G x u

/-- The call that runs: the world at its begin, the blocks that it was lent. -/
structure Cx where
  w0 : World
  lent : Nat → Prop
  K0 : Nat → Prop
  pins : Id → Nat → Value → Prop

/-- The machine's state stands for the frame and the world. -/
structure Rel1 (cx : Cx) (st : St) (a : Act) (w : World) (K : Nat → Prop) (G : Id → Value) (B : Id → Option Nat) : Prop where
  slots : ∀ t, RepPV w K st.mem G (st.slot t) (a.tmps.getD t undef)
  len : a.tmps.size = st.n
  defers : a.defers = []
  os : w.os = cx.w0.os
  tape : w.tape = cx.w0.tape
  output : w.output = cx.w0.output
  size : cx.w0.heap.size ≤ w.heap.size
  frame : ∀ b, b < cx.w0.heap.size → ¬ cx.lent b → w.heap[b]? = cx.w0.heap[b]?
  kept : ∀ b, cx.K0 b → K b
  keptLt : ∀ b, K b → b < w.heap.size
  keptIn : ∀ b, K b → cx.K0 b ∨ cx.lent b ∨ cx.w0.heap.size ≤ b
  ents : ∀ id, EntRep w K st.mem G B id (st.mem id).2
  dead : ∀ id, (∀ e z xss, (st.mem id).2 ≠ .row e z xss) → (∀ ls, (st.mem id).2 ≠ .cell ls) → B id = none
  inj : ∀ id id' b, B id = some b → B id' = some b → id = id'
  mine : ∀ id b, B id = some b → ¬ K b ∧ b < w.heap.size ∧ (cx.w0.heap.size ≤ b ∨ cx.lent b)
  pins : ∀ c n v, cx.pins c n v → n ≤ (st.mem c).1 ∧ ((st.mem c).1 = n → G c = v)

def Rel (cx : Cx) (st : St) (a : Act) (w : World) : Prop := ∃ K G B, Rel1 cx st a w K G B


/-! ### What an operation does to the state -/

def St.put (st : St) (d : Option Tmp) (v : PV) : St :=
  match d with
  | some d => { st with slot := fun t => if t = d then v else st.slot t }
  | none => st

def mset (m : Mem) (id : Id) (x : Nat × Ent) : Mem := fun i => if i = id then x else m i

def valueLeaf : Value → Leaf
  | .slice none 0 0 => .nil
  | .slice _ _ _ => .any
  | .agg _ => .any
  | .tuple _ => .any
  | v => .d (.v v)

def constPV : Value → PV
  | .agg cs => if cs.toList.all (fun c => c.oneCell') = true then .agg (cs.toList.map valueLeaf) else .l .any
  | .tuple _ => .l .any
  | v => .l (valueLeaf v)

def St.ev (st : St) : Operand → PV
  | .tmp t => st.slot t
  | .const v => constPV v
  | .global _ => .l .any
  | .func f => .l (.clo f [])

def PV.leaves : PV → List Leaf
  | .l x => [x]
  | .agg xs => xs
  | .tup _ => []

def PV.good : PV → Bool
  | .l .any => false
  | .l _ => true
  | .agg _ => true
  | .tup _ => false

def elT (P : Program) (t : TypeId) : Option TypeId := match P.underlying t with | some (.slice e) => if (P.info? e).isSome = true then some e else none | _ => none
def aggT (P : Program) (t : TypeId) : Option Bool := (P.underlying t).map fun | .struct _ => true | .array _ _ => true | _ => false
def fldT (P : Program) (t : TypeId) (f : Nat) : Option (Nat × TypeId) :=
  match P.underlying t with
  | some (.struct fs) => (fs[f]?).bind fun x => if (P.info? x.type).isSome = true ∧ P.cellsOf x.type ≠ 0 then some (x.offset, x.type) else none
  | _ => none
def zeroT (P : Program) (t : TypeId) : Option (List Leaf) :=
  ((P.info? t).bind (·.zero)).bind fun z => if z.cells.toList.all (fun c => c.oneCell') = true then some (z.cells.toList.map valueLeaf) else none
def structT (P : Program) (t : TypeId) : Bool := match P.underlying t with | some (.struct fs) => fs.all fun f => (P.info? f.type).isSome | _ => false
def zlenT (P : Program) (t : TypeId) : Bool := match zeroT P t with | some ls => ls.length == P.cellsOf t | none => false
def strT (P : Program) (t : TypeId) : Bool := match P.underlying t with | some .string => true | _ => false
def boolT (P : Program) (t : TypeId) : Bool := match P.underlying t with | some .bool => true | _ => false

/-- A leaf as data: a row of one's own is frozen. -/
def asD (m : Mem) : Leaf → Option (D × Mem)
  | .d x => some (x, m)
  | .nil => some (.sl [], m)
  | .own r n => match m r with
    | (n', .row _ z xss) => if n' = n then some (.sl xss, mset m r (n, .frz z xss)) else none
    | (n', .frz _ xss) => if n' = n then some (.sl xss, m) else none
    | _ => none
  | _ => none

def asDs (m : Mem) : List Leaf → Option (List D × Mem)
  | [] => some ([], m)
  | x :: xs => match asD m x with
    | some (d, m1) => match asDs m1 xs with
      | some (ds, m2) => some (d :: ds, m2)
      | none => none
    | none => none

/-- The elements that a slice holds, read where they lie. -/
def elems (m : Mem) : Leaf → Option (List (List D))
  | .d (.sl xss) => some xss
  | .nil => some []
  | .own r n => match m r with
    | (n', .row _ _ xss) => if n' = n then some xss else none
    | (n', .frz _ xss) => if n' = n then some xss else none
    | _ => none
  | _ => none

def overlay {α : Type} (xs : List α) (off : Nat) (ys : List α) : Option (List α) :=
  if off + ys.length ≤ xs.length then some (xs.take off ++ ys ++ xs.drop (off + ys.length)) else none

def fillL (place : Nat → Option (Nat × Nat)) (cells : List Leaf) : List (Nat × PV) → Option (List Leaf)
  | [] => some cells
  | (i, v) :: rest => match place i with
    | some (off, size) => if v.good = true ∧ v.leaves.length = size then (match overlay cells off v.leaves with | some c => fillL place c rest | none => none) else none
    | none => none

def chunks {α : Type} (z n : Nat) (xs : List α) : List (List α) := (List.range n).map fun i => (xs.drop (i * z)).take z

def pureOf {α : Type} : Sem α → Option α
  | .pure v => some v
  | _ => none

def binInt (op : BinOp) (k : IntKind) (a b : Int) : Option Value :=
  match op with
  | .add => some (.int k (k.wrap (a + b)))
  | .sub => some (.int k (k.wrap (a - b)))
  | .mul => some (.int k (k.wrap (a * b)))
  | .quo => if b = 0 then none else some (.int k (k.wrap (a.tdiv b)))
  | .rem => if b = 0 then none else some (.int k (a.tmod b))
  | .and => some (.int k (k.wrap (BitVec.ofInt k.bits a &&& BitVec.ofInt k.bits b).toNat))
  | .or => some (.int k (k.wrap (BitVec.ofInt k.bits a ||| BitVec.ofInt k.bits b).toNat))
  | .xor => some (.int k (k.wrap (BitVec.ofInt k.bits a ^^^ BitVec.ofInt k.bits b).toNat))
  | .andNot => some (.int k (k.wrap (BitVec.ofInt k.bits a &&& ~~~ BitVec.ofInt k.bits b).toNat))
  | .eql => some (.bool (a == b))
  | .neq => some (.bool (a != b))
  | .lss => some (.bool (decide (a < b)))
  | .leq => some (.bool (decide (a ≤ b)))
  | .gtr => some (.bool (decide (a > b)))
  | .geq => some (.bool (decide (a ≥ b)))
  | _ => none

def shiftInt (op : BinOp) (k : IntKind) (a b : Int) : Option Value :=
  if b < 0 then none else
  match op with
  | .shl => some (.int k (k.wrap (a * 2 ^ (min b.toNat k.bits))))
  | .shr => some (.int k (a.fdiv (2 ^ (min b.toNat k.bits))))
  | _ => none

def binStr (op : BinOp) (x y : ByteArray) : Option Value :=
  match op with
  | .add => if ((x.size + y.size : Nat) : Int) > IntKind.i64.max then none else some (.string (x ++ y))
  | .eql => some (.bool (x.toList == y.toList))
  | .neq => some (.bool !(x.toList == y.toList))
  | .lss => some (.bool (Op.bytesLess x.toList y.toList))
  | .leq => some (.bool (Op.bytesLess x.toList y.toList || x.toList == y.toList))
  | .gtr => some (.bool !(Op.bytesLess x.toList y.toList || x.toList == y.toList))
  | .geq => some (.bool !(Op.bytesLess x.toList y.toList))
  | _ => none

def isShift (op : BinOp) : Bool := match op with | .shl | .shr => true | _ => false

def binV (op : BinOp) (a b : Value) : Option Value :=
  match a, b with
  | .int k a, .int k' b => if isShift op then shiftInt op k a b else if k = k' then binInt op k a b else none
  | .string a, .string b => binStr op a b
  | _, _ => none

def unInt (op : UnOp) (k : IntKind) (n : Int) : Option Value :=
  match op with
  | .neg => some (.int k (k.wrap (0 - n)))
  | .xor => some (.int k (k.wrap (BitVec.ofInt k.bits (if k.signed then -1 else k.max) ^^^ BitVec.ofInt k.bits n).toNat))
  | _ => none

def takeLeaves (g : Option Bool) (z : Nat) (xs : List Leaf) : Option PV :=
  match g with
  | some true => if z ≤ xs.length then some (.agg (xs.take z)) else none
  | some false => match xs with | x :: _ => some (.l x) | [] => none
  | none => none

def isNilEq (op : BinOp) : Option (Bool → Value) :=
  match op with
  | .eql => some fun b => .bool b
  | .neq => some fun b => .bool !b
  | _ => none

end Go.Proofs.Ytfnplmglpbihhaa.Vm
