/- What a walk comes to, as one proposition, and the lemmas that work it out. -/
import Derived.Test.YtfnplmglpbihhaaVmK
namespace Go.Proofs.Ytfnplmglpbihhaa.Vm
open Go Go.RowKit
set_option linter.unusedVariables false
set_option linter.unusedSimpArgs false

variable {P : Program} {st : St} {m : Mem}

def wpc (P : Program) (F : Fence) : Code → (Exit → St → Prop) → St → Prop
  | .skip, Q, st => Q .normal st
  | .label _, Q, st => Q .normal st
  | .exit id, Q, st => Q (.exit id) st
  | .goto l, Q, st => Q (.goto l) st
  | .ret, Q, st => Q .ret st
  | .seq x y, Q, st => wpc P F x (Then (wpc P F y Q) Q) st
  | .cond c x y, Q, st => ∃ t, st.ev c = .l (.d (.v (.bool t))) ∧ (t = true → wpc P F x Q st) ∧ (t = false → wpc P F y Q st)
  | .block id c, Q, st => wpc P F c (InBlock id Q) st
  | .scope c, Q, st => wpc P F c (NoGoto Q) st
  | .region _ ops false, Q, st => vops P ops (Q .normal) ops.toList st
  | c, Q, st => AWp P F c Q st

theorem awp_of {F : Fence} (hF : Wide F) : ∀ (c : Code) (Q : Exit → St → Prop) (st : St), wpc P F c Q st → AWp P F c Q st
  | .skip, Q, st, h => awp_skip h
  | .label _, Q, st, h => awp_label h
  | .exit id, Q, st, h => awp_exit h
  | .goto l, Q, st, h => awp_goto h
  | .ret, Q, st, h => awp_ret h
  | .seq x y, Q, st, h => awp_seq (awp_mono (awp_of hF x _ st h) fun e st' hq => by
      cases e with
      | normal => exact awp_of hF y Q st' hq
      | _ => exact hq)
  | .cond c x y, Q, st, ⟨t, hc, h1, h2⟩ => awp_cond hc (fun ht => awp_of hF x Q st (h1 ht)) (fun ht => awp_of hF y Q st (h2 ht))
  | .block id c, Q, st, h => awp_block (awp_of hF c _ st h)
  | .region id ops false, Q, st, h => awp_region hF h
  | .region id ops true, Q, st, h => h
  | .loop _, Q, st, h => h
  | .rangeFunc .., Q, st, h => h
  | .scope c, Q, st, h => awp_scope (awp_of hF c _ st h)
  | .refuse _, Q, st, h => h

theorem imp_ite (c : Prop) [Decidable c] (X Y : Prop) : ((c → X) ∧ (¬ c → Y)) = if c then X else Y := by by_cases h : c <;> simp [h]

def condv (v : PV) (A B : St → Prop) (st : St) : Prop := ∃ t, v = .l (.d (.v (.bool t))) ∧ (t = true → A st) ∧ (t = false → B st)
@[simp] theorem condv_bool {t : Bool} {A B : St → Prop} : condv (.l (.d (.v (.bool t)))) A B st = if t = true then A st else B st := by
  unfold condv
  cases t <;> simp

def gif (g : Option (Option Bool)) (b : Bool) (A B : St → Prop) (st : St) : Prop := match g with
  | some t => (t = some b → A st) ∧ (¬ t = some b → B st)
  | none => False
@[simp] theorem gif_some {t : Option Bool} {b : Bool} {A B : St → Prop} : gif (some t) b A B st = if t = some b then A st else B st := imp_ite _ _ _

def skipd (d : Option Tmp) (k : St → Prop) (st : St) : Prop := okDst st d = true ∧ k (st.put d (.tup []))
@[simp] theorem skipd_eq {d : Option Tmp} {k : St → Prop} : skipd d k st = (okDst st d = true ∧ k (st.put d (.tup []))) := rfl

def St.setm (st : St) (m : Mem) : St := { st with mem := m }

section simps
variable {F : Fence} {Q : Exit → St → Prop}

@[simp] theorem wpc_skip : wpc P F .skip Q st = Q .normal st := rfl
@[simp] theorem wpc_label {l : Nat} : wpc P F (.label l) Q st = Q .normal st := rfl
@[simp] theorem wpc_exit {l : Nat} : wpc P F (.exit l) Q st = Q (.exit l) st := rfl
@[simp] theorem wpc_goto {l : Nat} : wpc P F (.goto l) Q st = Q (.goto l) st := rfl
@[simp] theorem wpc_ret : wpc P F .ret Q st = Q .ret st := rfl
@[simp] theorem wpc_seq {x y : Code} : wpc P F (.seq x y) Q st = wpc P F x (Then (wpc P F y Q) Q) st := rfl
@[simp] theorem wpc_cond {c : Operand} {x y : Code} : wpc P F (.cond c x y) Q st = condv (st.ev c) (wpc P F x Q) (wpc P F y Q) st := rfl
@[simp] theorem wpc_block {id : Nat} {c : Code} : wpc P F (.block id c) Q st = wpc P F c (InBlock id Q) st := rfl
@[simp] theorem wpc_region {id : Nat} {ops : Array Oper} : wpc P F (.region id ops false) Q st = vops P ops (Q .normal) ops.toList st := rfl
@[simp] theorem wpc_scope {c : Code} : wpc P F (.scope c) Q st = wpc P F c (NoGoto Q) st := rfl
@[simp] theorem wpc_drawn {id : Nat} {ops : Array Oper} : wpc P F (.region id ops true) Q st = AWp P F (.region id ops true) Q st := rfl
@[simp] theorem wpc_loop {c : Code} : wpc P F (.loop c) Q st = AWp P F (.loop c) Q st := rfl

@[simp] theorem then_normal {next : St → Prop} : Then next Q .normal st = next st := rfl
@[simp] theorem then_ret {next : St → Prop} : Then next Q .ret st = Q .ret st := rfl
@[simp] theorem then_exit {next : St → Prop} {id : Nat} : Then next Q (.exit id) st = Q (.exit id) st := rfl
@[simp] theorem then_goto {next : St → Prop} {id : Nat} : Then next Q (.goto id) st = Q (.goto id) st := rfl
@[simp] theorem nog_normal : NoGoto Q .normal st = Q .normal st := rfl
@[simp] theorem nog_normal' : NoGoto Q .normal = Q .normal := rfl
@[simp] theorem nog_ret : NoGoto Q .ret st = Q .ret st := rfl
@[simp] theorem nog_exit {id : Nat} : NoGoto Q (.exit id) st = Q (.exit id) st := rfl
@[simp] theorem inb_normal {id : Nat} : InBlock id Q .normal st = Q .normal st := rfl
@[simp] theorem inb_ret {id : Nat} : InBlock id Q .ret st = Q .ret st := rfl
@[simp] theorem inb_goto {id l : Nat} : InBlock id Q (.goto l) st = Q (.goto l) st := rfl
@[simp] theorem inb_exit {id id' : Nat} : InBlock id Q (.exit id') st = if id' = id then Q .normal st else Q (.exit id') st := rfl

@[simp] theorem vops_nil {ops : Array Oper} {k : St → Prop} : vops P ops k [] st = k st := rfl
@[simp] theorem vops_cons {ops : Array Oper} {k : St → Prop} {o : Oper} {l : List Oper} : vops P ops k (o :: l) st = vgo P ops o (vops P ops k l) st := rfl

@[simp] theorem then_normal' {next : St → Prop} : Then next Q .normal = next := rfl
@[simp] theorem then_ret' {next : St → Prop} : Then next Q .ret = Q .ret := rfl
@[simp] theorem then_exit' {next : St → Prop} {id : Nat} : Then next Q (.exit id) = Q (.exit id) := rfl
@[simp] theorem inb_normal' {id : Nat} : InBlock id Q .normal = Q .normal := rfl
@[simp] theorem inb_ret' {id : Nat} : InBlock id Q .ret = Q .ret := rfl

variable {ops : Array Oper} {k : St → Prop} {d : Option Tmp} {op : Op} {ty : TypeId} {pos : String} {aft : Array Edge}

@[simp] theorem vgo_none : vgo P ops ⟨d, op, ty, pos, aft, none⟩ k st = vstep P ⟨d, op, ty, pos, aft, none⟩ (eff P ⟨d, op, ty, pos, aft, none⟩ st) k st := rfl
def vdo (P : Program) (o : Oper) (k : St → Prop) (st : St) : Prop := vstep P o (eff P o st) k st
@[simp] theorem vdo_eq {o : Oper} : vdo P o k st = vstep P o (eff P o st) k st := rfl
@[simp] theorem vgo_some {j : Nat} {b : Bool} : vgo P ops ⟨d, op, ty, pos, aft, some (j, b)⟩ k st = gif (guardVal ops st j) b (vdo P ⟨d, op, ty, pos, aft, some (j, b)⟩ k) (skipd d k) st := rfl
@[simp] theorem vstep_some {o : Oper} {v : PV} : vstep P o (some (v, m)) k st = (okDst st o.dst = true ∧ k ((st.setm m).put o.dst v)) := rfl
@[simp] theorem vstep_none {o : Oper} : vstep P o none k st = vcall P o k st := rfl

@[simp] theorem okDst_none : okDst st none = true := rfl
@[simp] theorem okDst_some {t : Nat} : okDst st (some t) = decide (t < st.n) := rfl
@[simp] theorem put_n {v : PV} : (st.put d v).n = st.n := by cases d <;> rfl
@[simp] theorem put_mem {v : PV} : (st.put d v).mem = st.mem := by cases d <;> rfl
@[simp] theorem put_slot {v : PV} {t t' : Nat} : (st.put (some t) v).slot t' = if t' = t then v else st.slot t' := rfl
@[simp] theorem put_none {v : PV} : st.put none v = st := rfl
@[simp] theorem setm_n : (st.setm m).n = st.n := rfl
@[simp] theorem setm_slot : (st.setm m).slot = st.slot := rfl
@[simp] theorem setm_mem : (st.setm m).mem = m := rfl
@[simp] theorem setm_self : st.setm st.mem = st := rfl
@[simp] theorem setm_setm {m' : Mem} : (st.setm m).setm m' = st.setm m' := rfl
@[simp] theorem put_setm {v : PV} : (st.put d v).setm m = (st.setm m).put d v := by cases d <;> rfl

@[simp] theorem ev_tmp {t : Nat} : st.ev (.tmp t) = st.slot t := rfl
@[simp] theorem ev_func {t : Nat} : st.ev (.func t) = .l (.clo t []) := rfl
@[simp] theorem ev_int {kk : IntKind} {n : Int} : st.ev (.const (.int kk n)) = .l (.d (.v (.int kk n))) := rfl
@[simp] theorem ev_bool {b : Bool} : st.ev (.const (.bool b)) = .l (.d (.v (.bool b))) := rfl
@[simp] theorem ev_str {b : ByteArray} : st.ev (.const (.string b)) = .l (.d (.v (.string b))) := rfl
@[simp] theorem ev_nil : st.ev (.const (.slice none 0 0)) = .l .nil := rfl
@[simp] theorem ev_agg {cs : Array Value} : st.ev (.const (.agg cs)) = if cs.toList.all (fun c => c.oneCell') = true then .agg (cs.toList.map valueLeaf) else .l .any := rfl

variable {g : Option (Nat × Bool)}

@[simp] theorem eff_move {x : Operand} : eff P ⟨d, .move x, ty, pos, aft, g⟩ st = some (st.ev x, st.mem) := rfl
@[simp] theorem eff_assign {x : Operand} : eff P ⟨d, .assign x, ty, pos, aft, g⟩ st = some (st.ev x, st.mem) := rfl
@[simp] theorem eff_pick {c a b : Operand} : eff P ⟨d, .pick c a b, ty, pos, aft, g⟩ st = effPick st (st.ev c) (st.ev a) (st.ev b) := rfl
@[simp] theorem eff_bin {o : BinOp} {xt yt : TypeId} {x y : Operand} : eff P ⟨d, .binOp o xt x y yt, ty, pos, aft, g⟩ st = effBin P st.mem o xt (st.ev x) (st.ev y) := rfl
@[simp] theorem eff_un {o : UnOp} {xt : TypeId} {x : Operand} : eff P ⟨d, .unOp o xt x, ty, pos, aft, g⟩ st = effUn st.mem o (st.ev x) := rfl
@[simp] theorem eff_load {t : TypeId} {x : Operand} : eff P ⟨d, .load t x, ty, pos, aft, g⟩ st = effLoad P st.mem t (st.ev x) := rfl
@[simp] theorem eff_store {t : TypeId} {x y : Operand} : eff P ⟨d, .store t x y, ty, pos, aft, g⟩ st = effStore P st.mem t (st.ev x) (st.ev y) := rfl
@[simp] theorem eff_alloc {t : TypeId} : eff P ⟨d, .alloc t, ty, pos, aft, g⟩ st = match zeroT P t with | some ls => effNew st.mem d ls | none => none := rfl
@[simp] theorem eff_box {t : TypeId} {x : Operand} : eff P ⟨d, .box t x, ty, pos, aft, g⟩ st = if (st.ev x).good = true then effNew st.mem d (st.ev x).leaves else none := rfl
@[simp] theorem eff_build {t : TypeId} {ps : Array (Nat × Operand)} : eff P ⟨d, .build t ps, ty, pos, aft, g⟩ st = effBuild P st.mem t (ps.toList.map fun p => (p.1, st.ev p.2)) := rfl
@[simp] theorem eff_buildSlice {t : TypeId} {n : Nat} {ps : Array (Nat × Operand)} : eff P ⟨d, .buildSlice t n ps, ty, pos, aft, g⟩ st = effBuildSlice P st.mem d t n (ps.toList.map fun p => (p.1, st.ev p.2)) := rfl
@[simp] theorem eff_makeSlice {t : TypeId} {l c : Operand} : eff P ⟨d, .makeSlice t l c, ty, pos, aft, g⟩ st = effMakeSlice P st.mem d t (st.ev l) (st.ev c) := rfl
@[simp] theorem eff_indexAddr {t : TypeId} {x i : Operand} : eff P ⟨d, .indexAddr t x i, ty, pos, aft, g⟩ st = effIndexAddr P st.mem t (st.ev x) (st.ev i) := rfl
@[simp] theorem eff_fieldAddr {t : TypeId} {x : Operand} {i : Nat} : eff P ⟨d, .fieldAddr t x i, ty, pos, aft, g⟩ st = effFieldAddr P st.mem t (st.ev x) i := rfl
@[simp] theorem eff_field {t : TypeId} {x : Operand} {i : Nat} : eff P ⟨d, .field t x i, ty, pos, aft, g⟩ st = effField P st.mem t (st.ev x) i := rfl
@[simp] theorem eff_slice {t : TypeId} {x : Operand} {lo hi mx : Option Operand} : eff P ⟨d, .slice t x lo hi mx, ty, pos, aft, g⟩ st = effSlice P st.mem t (st.ev x) (lo.map st.ev) (hi.map st.ev) (mx.map st.ev) := rfl
@[simp] theorem eff_index {t : TypeId} {x i : Operand} : eff P ⟨d, .index t x i, ty, pos, aft, g⟩ st = effIndex P st.mem t (st.ev x) (st.ev i) := rfl
@[simp] theorem eff_convert {s t : TypeId} {x : Operand} : eff P ⟨d, .convert s t x, ty, pos, aft, g⟩ st = effConvert P st.mem s t (st.ev x) := rfl
@[simp] theorem eff_makeFunc {f : Fn} {fs caps : Array Operand} : eff P ⟨d, .makeFunc f fs caps, ty, pos, aft, g⟩ st = effMakeFunc st.mem f (fs.toList.map st.ev) (caps.toList.map st.ev) := rfl
@[simp] theorem eff_extract {x : Operand} {i : Nat} : eff P ⟨d, .extract x i, ty, pos, aft, g⟩ st = effExtract st.mem (st.ev x) i := rfl
@[simp] theorem eff_len {x : Operand} {t : TypeId} : eff P ⟨d, .call { callee := .builtin .len, args := #[x], argTypes := #[t] }, ty, pos, aft, g⟩ st = effLen P st.mem t (st.ev x) := rfl
@[simp] theorem eff_append {x y : Operand} {t t' : TypeId} : eff P ⟨d, .call { callee := .builtin .append, args := #[x, y], argTypes := #[t, t'] }, ty, pos, aft, g⟩ st = effAppend P st.mem d t t' (st.ev x) (st.ev y) := rfl
@[simp] theorem eff_min {x y : Operand} {ts : Array TypeId} : eff P ⟨d, .call { callee := .builtin .min, args := #[x, y], argTypes := ts }, ty, pos, aft, g⟩ st = effMinMax st.mem false (st.ev x) (st.ev y) := rfl
@[simp] theorem eff_max {x y : Operand} {ts : Array TypeId} : eff P ⟨d, .call { callee := .builtin .max, args := #[x, y], argTypes := ts }, ty, pos, aft, g⟩ st = effMinMax st.mem true (st.ev x) (st.ev y) := rfl
@[simp] theorem eff_call {c : Operand} {as : Array Operand} {ts : Array TypeId} : eff P ⟨d, .call { callee := .value c, args := as, argTypes := ts }, ty, pos, aft, g⟩ st = none := rfl

theorem vcall_of {fo : Operand} {args : Array Operand} {ts : Array TypeId} {f : Nat} {caps : List (Id × Nat)} (mds : List Md) {avs rs : List AV} {outs : List (List AL)} {m1 m2 : Mem} (hV : VFun P f avs rs outs)
    (hf : st.ev fo = .l (.clo f caps)) (hc : callP P f = true) (ha : toAVs P st.mem mds (args.toList.map st.ev ++ capPVs caps) = some (avs, m1))
    (hb : backs P m1 (cellsMds mds (args.toList.map st.ev ++ capPVs caps)) outs = some m2) (hd : okDst st d = true) (hk : k ((st.setm (bindRes P m2 d rs).2).put d (bindRes P m2 d rs).1)) :
    vcall P ⟨d, .call { callee := .value fo, args := args, argTypes := ts }, ty, pos, aft, g⟩ k st :=
  ⟨fo, args, ts, f, caps, mds, avs, m1, rs, outs, m2, rfl, hf, hc, ha, hV, hb, hd, hk⟩

@[simp] theorem entry_slot {n t : Nat} {as : List AV} : (entry P n as).slot t = (fromAVs P mem0 [] [0, 0] 0 as).1.getD t (.l .any) := rfl
@[simp] theorem entry_mem {n : Nat} {as : List AV} : (entry P n as).mem = (fromAVs P mem0 [] [0, 0] 0 as).2 := rfl
@[simp] theorem entry_n {n : Nat} {as : List AV} : (entry P n as).n = n := rfl
theorem wide0 : Wide Fence.wide := .inl rfl
@[simp] theorem mset_self {id : Id} {x : Nat × Ent} : mset m id x id = x := if_pos rfl
theorem mset_other {id id' : Id} {x : Nat × Ent} (h : id' ≠ id) : mset m id x id' = m id' := if_neg h
@[simp] theorem mem0_app {id : Id} : mem0 id = (0, .none) := rfl

attribute [simp] fromAVs fromAV fromAL fromALs toAVs toAV toALs toAL asD asDs elems backs cellsMds cellsMd cellsOf entryCells capPVs toPtrs
attribute [simp] effPick effBin effUn effLoad effLen effIndexAddr effFieldAddr effField effExtract effMinMax effConvert binV binInt isShift unInt takeLeaves isNilEq boundOf PV.good PV.leaves valueLeaf Value.oneCell'
end simps

theorem drop_get {α : Type} {l : List α} {i : Nat} (h : i < l.length) : ∃ n, l[i] = n ∧ l[i]? = some n ∧ n ∈ l ∧ l.drop i = n :: l.drop (i + 1) :=
  ⟨_, rfl, List.getElem?_eq_getElem h, List.getElem_mem h, List.drop_eq_getElem_cons h⟩

theorem cmp (a b : Int) : (a < b ∧ ¬ b ≤ a ∧ ¬ b < a ∧ a ≤ b ∧ a ≠ b ∧ b ≠ a) ∨ (a = b ∧ ¬ b < a ∧ ¬ a < b) ∨ (b < a ∧ ¬ a ≤ b ∧ ¬ a < b ∧ b ≤ a ∧ a ≠ b ∧ b ≠ a) := by omega
theorem lge (a b : Int) : (a < b ∧ ¬ b ≤ a) ∨ (b ≤ a ∧ ¬ a < b) := by omega

def iD (n : Int) : D := .v (.int .i64 n)
def bV (b : Bool) : PV := .l (.d (.v (.bool b)))
def iV (n : Int) : PV := .l (.d (.v (.int .i64 n)))

@[simp] theorem wrap64 {n : Int} (h1 : -9223372036854775808 ≤ n) (h2 : n ≤ 9223372036854775807) : IntKind.i64.wrap n = n := by
  rw [IntKind.wrap_i64]; omega

theorem wrapS {i n : Nat} (h : i < n) (hn : n ≤ maxLen) : IntKind.i64.wrap ((i : Int) + 1) = ((i + 1 : Nat) : Int) := by
  rw [wrap64 (by omega) (by simp [maxLen] at hn; omega)]; rfl

end Go.Proofs.Ytfnplmglpbihhaa.Vm
