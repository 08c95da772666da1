/- What an operation of the model comes to in the abstract machine. -/
import Derived.Test.YtfnplmglpbihhaaVmA
namespace Go.Proofs.Ytfnplmglpbihhaa.Vm
open Go Go.RowKit
set_option linter.unusedVariables false
set_option linter.unusedSimpArgs false

def effPick (st : St) (c a b : PV) : Option (PV × Mem) :=
  match c with
  | .l (.d (.v (.bool t))) => some (if t then a else b, st.mem)
  | _ => none

def effBin (P : Program) (m : Mem) (op : BinOp) (xt : TypeId) (x y : PV) : Option (PV × Mem) :=
  match x, y with
  | .l (.d (.v (.bool a))), .l (.d (.v (.bool b))) => if boolT P xt then (match isNilEq op with | some f => some (.l (.d (.v (f (a == b)))), m) | none => none) else none
  | .l (.d (.v a)), .l (.d (.v b)) => match binV op a b with | some v => some (.l (.d (.v v)), m) | none => none
  | .l .nil, .l .nil => if (elT P xt).isSome then (match isNilEq op with | some f => some (.l (.d (.v (f true))), m) | none => none) else none
  | .l (.d (.sl (_ :: _))), .l .nil => if (elT P xt).isSome then (match isNilEq op with | some f => some (.l (.d (.v (f false))), m) | none => none) else none
  | _, _ => none

def effUn (m : Mem) (op : UnOp) (x : PV) : Option (PV × Mem) :=
  match x with
  | .l (.d (.v (.bool b))) => match op with | .not => some (.l (.d (.v (.bool !b))), m) | _ => none
  | .l (.d (.v (.int k n))) => match unInt op k n with | some v => some (.l (.d (.v v)), m) | none => none
  | _ => none

def effLoad (P : Program) (m : Mem) (t : TypeId) (a : PV) : Option (PV × Mem) :=
  match a with
  | .l (.at xs) => (takeLeaves (aggT P t) (P.cellsOf t) (xs.map .d)).map fun v => (v, m)
  | .l (.oat r n i j) => match m r with
    | (n', .row _ _ xss) => if n' = n ∧ i < xss.length then (takeLeaves (aggT P t) (P.cellsOf t) (((xss.getD i []).drop j).map .d)).map fun v => (v, m) else none
    | (n', .frz _ xss) => if n' = n ∧ i < xss.length then (takeLeaves (aggT P t) (P.cellsOf t) (((xss.getD i []).drop j).map .d)).map fun v => (v, m) else none
    | _ => none
  | .l (.ptr c n off) => match m c with
    | (n', .cell ls) => if n' = n then (takeLeaves (aggT P t) (P.cellsOf t) (ls.drop off)).map fun v => (v, m) else none
    | _ => none
  | _ => none

def effStore (P : Program) (m : Mem) (t : TypeId) (a x : PV) : Option (PV × Mem) :=
  match a with
  | .l (.ptr c n off) => match m c with
    | (n', .cell ls) => if n' = n ∧ x.good = true ∧ (P.info? t).isSome = true ∧ x.leaves.length = P.cellsOf t then (overlay ls off x.leaves).map fun ls' => (.l .any, mset m c (n, .cell ls')) else none
    | _ => none
  | .l (.oat r n i j) => match asDs m x.leaves with
    | some (ds, m1) => match m1 r with
      | (n', .row e z xss) => if n' = n ∧ i < xss.length ∧ x.good = true ∧ (P.info? t).isSome = true ∧ ds.length = P.cellsOf t then (overlay (xss.getD i []) j ds).map fun xs => (.l .any, mset m1 r (n, .row e z (xss.set i xs))) else none
      | _ => none
    | none => none
  | _ => none

def effNew (m : Mem) (d : Option Tmp) (ls : List Leaf) : Option (PV × Mem) :=
  match d with
  | some d => some (.l (.ptr [d] ((m [d]).1 + 1) 0), mset m [d] ((m [d]).1 + 1, .cell ls))
  | none => none

def effBuild (P : Program) (m : Mem) (t : TypeId) (parts : List (Nat × PV)) : Option (PV × Mem) :=
  if structT P t = true then match zeroT P t with
  | some z => (fillL (fun i => match fldT P t i with | some (o, f) => some (o, P.cellsOf f) | none => none) z parts).map fun ls => (.agg ls, m)
  | none => none else none

def effBuildSlice (P : Program) (m : Mem) (d : Option Tmp) (t : TypeId) (len : Nat) (parts : List (Nat × PV)) : Option (PV × Mem) :=
  match d, elT P t with
  | some d, some e => match zeroT P e with
    | some zs => if len * P.cellsOf e ≤ 16777216 ∧ zs.length = P.cellsOf e ∧ 0 < P.cellsOf e then
        match fillL (fun i => some (i * P.cellsOf e, P.cellsOf e)) ((List.replicate len zs).flatten) parts with
        | some ls => match asDs m ls with
          | some (ds, m1) => some (.l (.own [d] ((m1 [d]).1 + 1)), mset m1 [d] ((m1 [d]).1 + 1, .row e (P.cellsOf e) (chunks (P.cellsOf e) len ds)))
          | none => none
        | none => none
      else none
    | none => none
  | _, _ => none

def effIndexAddr (P : Program) (m : Mem) (t : TypeId) (x i : PV) : Option (PV × Mem) :=
  match elT P t, i with
  | some e, .l (.d (.v (.int _ i))) => match x with
    | .l (.d (.sl xss)) => if 0 ≤ i ∧ i < xss.length ∧ (xss.getD i.toNat []).length = P.cellsOf e then some (.l (.at (xss.getD i.toNat [])), m) else none
    | .l (.own r n) => match m r with
      | (n', .row _ z xss) => if n' = n ∧ 0 ≤ i ∧ i < xss.length ∧ z = P.cellsOf e then some (.l (.oat r n i.toNat 0), m) else none
      | (n', .frz z xss) => if n' = n ∧ 0 ≤ i ∧ i < xss.length ∧ z = P.cellsOf e then some (.l (.oat r n i.toNat 0), m) else none
      | _ => none
    | _ => none
  | _, _ => none

def effFieldAddr (P : Program) (m : Mem) (s : TypeId) (x : PV) (f : Nat) : Option (PV × Mem) :=
  match fldT P s f with
  | some (o, _) => match x with
    | .l (.at xs) => some (.l (.at (xs.drop o)), m)
    | .l (.oat r n i j) => if (m r).1 = n then some (.l (.oat r n i (j + o)), m) else none
    | .l (.ptr c n off) => if (m c).1 = n then some (.l (.ptr c n (off + o)), m) else none
    | _ => none
  | none => none

def effField (P : Program) (m : Mem) (s : TypeId) (x : PV) (f : Nat) : Option (PV × Mem) :=
  match fldT P s f with
  | some (o, ft) => match x with
    | .agg ls => (takeLeaves (aggT P ft) (P.cellsOf ft) (ls.drop o)).map fun v => (v, m)
    | _ => none
  | none => none

def boundOf (d : Nat) : Option PV → Option Int
  | none => some d
  | some (.l (.d (.v (.int _ i)))) => some i
  | _ => none

def effSlice (P : Program) (m : Mem) (t : TypeId) (x : PV) (lo hi mx : Option PV) : Option (PV × Mem) :=
  match mx with
  | some _ => none
  | none => match x with
    | .l (.d (.v (.string s))) => if strT P t then (match boundOf 0 lo, boundOf s.size hi with
        | some l, some h => if 0 ≤ l ∧ l ≤ h ∧ h ≤ s.size then some (.l (.d (.v (.string (s.extract l.toNat h.toNat)))), m) else none
        | _, _ => none) else none
    | .l x => match elT P t, asD m x with
      | some e, some (.sl xss, m1) => match boundOf 0 lo, boundOf xss.length hi with
        | some l, some h => if 0 ≤ l ∧ l ≤ h ∧ h ≤ xss.length ∧ xss.all (fun xs => xs.length == P.cellsOf e) = true then some (.l (.d (.sl ((xss.take h.toNat).drop l.toNat))), m1) else none
        | _, _ => none
      | _, _ => none
    | _ => none

def effIndex (P : Program) (m : Mem) (t : TypeId) (x i : PV) : Option (PV × Mem) :=
  match x, i with
  | .l (.d (.v (.string s))), .l (.d (.v (.int _ i))) => if strT P t ∧ 0 ≤ i ∧ i.toNat < s.size then some (.l (.d (.v (.int .u8 ((s.data.toList.getD i.toNat 0).toNat : Int)))), m) else none
  | _, _ => none

def effConvert (P : Program) (m : Mem) (s t : TypeId) (x : PV) : Option (PV × Mem) :=
  match x with
  | .l (.d (.v (.int _ n))) => match P.underlying s, P.underlying t with
    | some (.int _), some (.int k) => some (.l (.d (.v (.int k (k.wrap n)))), m)
    | _, _ => none
  | _ => none

def capsOf : List PV → Option (List (Id × Nat))
  | [] => some []
  | .l (.ptr c n 0) :: r => (capsOf r).map fun cs => (c, n) :: cs
  | _ => none

def effMakeFunc (m : Mem) (fn : Fn) (first : List PV) (caps : List PV) : Option (PV × Mem) :=
  match fn, first, capsOf caps with
  | .func f, [], some cs => some (.l (.clo f cs), m)
  | _, _, _ => none

def effLen (P : Program) (m : Mem) (t : TypeId) (x : PV) : Option (PV × Mem) :=
  match x with
  | .l (.d (.v (.string s))) => if strT P t then some (.l (.d (.v (.int .i64 (s.size : Int)))), m) else none
  | .l x => match elT P t, elems m x with
    | some _, some xss => some (.l (.d (.v (.int .i64 (xss.length : Int)))), m)
    | _, _ => none
  | _ => none

def effAppend (P : Program) (m : Mem) (d : Option Tmp) (t t' : TypeId) (s x : PV) : Option (PV × Mem) :=
  match elT P t, d with
  | some e, some d => if t = t' ∧ 0 < P.cellsOf e ∧ zlenT P e = true then (match s, x with
    | .l s, .l x => match elems m x with
      | some yss => if yss.all (fun ys => ys.length == P.cellsOf e) = true then (match s with
        | .nil => if yss.length * P.bytesOf e ≤ 140737488355328 ∧ yss.length ≤ maxLen then some (.l (.own [d] ((m [d]).1 + 1)), mset m [d] ((m [d]).1 + 1, .row e (P.cellsOf e) yss)) else none
        | .own r n => match m r with
          | (n', .row e' z xss) => if n' = n ∧ e' = e ∧ z = P.cellsOf e ∧ (xss.length + yss.length) * P.bytesOf e ≤ 140737488355328 ∧ xss.length + yss.length ≤ maxLen then
              some (.l (.own r (n + 1)), mset m r (n + 1, .row e z (xss ++ yss))) else none
          | _ => none
        | _ => none) else none
      | none => none
    | _, _ => none) else none
  | _, _ => none

def effMinMax (m : Mem) (mx : Bool) (x y : PV) : Option (PV × Mem) :=
  match x, y with
  | .l (.d (.v (.int k a))), .l (.d (.v (.int k' b))) => if k = k' then some (.l (.d (.v (.int k (if mx then (if a < b then b else a) else (if b < a then b else a))))), m) else none
  | _, _ => none

def effMakeSlice (P : Program) (m : Mem) (d : Option Tmp) (t : TypeId) (l c : PV) : Option (PV × Mem) :=
  match d, elT P t, l, c with
  | some d, some e, .l (.d (.v (.int .i64 l))), .l (.d (.v (.int .i64 c))) => match zeroT P e with
    | some zs => match asDs m zs with
      | some (ds, m1) => if 0 ≤ l ∧ l ≤ c ∧ c ≤ maxLen ∧ c * P.bytesOf e ≤ 140737488355328 ∧ zs.length = P.cellsOf e ∧ 0 < P.cellsOf e then
          some (.l (.own [d] ((m1 [d]).1 + 1)), mset m1 [d] ((m1 [d]).1 + 1, .row e (P.cellsOf e) (List.replicate l.toNat ds))) else none
      | none => none
    | none => none
  | _, _, _, _ => none

def effExtract (m : Mem) (x : PV) (i : Nat) : Option (PV × Mem) :=
  match x with
  | .tup xs => (xs[i]?).map fun v => (v, m)
  | _ => none

def eff (P : Program) (o : Oper) (st : St) : Option (PV × Mem) :=
  match o.op with
  | .move x => some (st.ev x, st.mem)
  | .assign x => some (st.ev x, st.mem)
  | .pick c a b => effPick st (st.ev c) (st.ev a) (st.ev b)
  | .binOp op xt x y _ => effBin P st.mem op xt (st.ev x) (st.ev y)
  | .unOp op _ x => effUn st.mem op (st.ev x)
  | .load t a => effLoad P st.mem t (st.ev a)
  | .store t a x => effStore P st.mem t (st.ev a) (st.ev x)
  | .alloc t => match zeroT P t with | some ls => effNew st.mem o.dst ls | none => none
  | .box t x => if (st.ev x).good = true then effNew st.mem o.dst (st.ev x).leaves else none
  | .build t parts => effBuild P st.mem t (parts.toList.map fun p => (p.1, st.ev p.2))
  | .buildSlice t len parts => effBuildSlice P st.mem o.dst t len (parts.toList.map fun p => (p.1, st.ev p.2))
  | .makeSlice t l c => effMakeSlice P st.mem o.dst t (st.ev l) (st.ev c)
  | .indexAddr t x i => effIndexAddr P st.mem t (st.ev x) (st.ev i)
  | .fieldAddr s x f => effFieldAddr P st.mem s (st.ev x) f
  | .field s x f => effField P st.mem s (st.ev x) f
  | .slice t x lo hi mx => effSlice P st.mem t (st.ev x) (lo.map st.ev) (hi.map st.ev) (mx.map st.ev)
  | .index t x i => effIndex P st.mem t (st.ev x) (st.ev i)
  | .convert s t x => effConvert P st.mem s t (st.ev x)
  | .makeFunc fn first caps => effMakeFunc st.mem fn (first.toList.map st.ev) (caps.toList.map st.ev)
  | .extract x i => effExtract st.mem (st.ev x) i
  | .call { callee := .builtin .len, args, argTypes } => if args.size = 1 ∧ argTypes.size = 1 then effLen P st.mem (argTypes.getD 0 0) (st.ev (args.getD 0 (.const undef))) else none
  | .call { callee := .builtin .append, args, argTypes } =>
    if args.size = 2 ∧ argTypes.size = 2 then effAppend P st.mem o.dst (argTypes.getD 0 0) (argTypes.getD 1 0) (st.ev (args.getD 0 (.const undef))) (st.ev (args.getD 1 (.const undef))) else none
  | .call { callee := .builtin .min, args, argTypes } => if args.size = 2 then effMinMax st.mem false (st.ev (args.getD 0 (.const undef))) (st.ev (args.getD 1 (.const undef))) else none
  | .call { callee := .builtin .max, args, argTypes } => if args.size = 2 then effMinMax st.mem true (st.ev (args.getD 0 (.const undef))) (st.ev (args.getD 1 (.const undef))) else none
  | _ => none

end Go.Proofs.Ytfnplmglpbihhaa.Vm
