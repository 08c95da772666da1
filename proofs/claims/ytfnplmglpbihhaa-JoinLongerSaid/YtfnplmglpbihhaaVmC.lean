/- The operations are sound: what the abstract machine says is what the model does. -/
import Derived.Test.YtfnplmglpbihhaaVmB
import Derived.Deep.MidRow
import Derived.Great.BuildSlice
namespace Go.Proofs.Ytfnplmglpbihhaa.Vm
open Go Go.RowKit
set_option linter.unusedVariables false
set_option linter.unusedSimpArgs false

variable {P : Program} {cx : Cx} {st : St} {a : Act} {w w' : World} {K K' : Nat → Prop} {G G' : Id → Value} {B B' : Id → Option Nat} {m m' : Mem}

def Ext (m : Mem) (G : Id → Value) (m' : Mem) (G' : Id → Value) : Prop :=
  ∀ id, ((m' id).1 = (m id).1 ∧ G' id = G id ∧ (m' id).2.z = (m id).2.z) ∨ (m id).1 < (m' id).1

theorem Ext.refl (m : Mem) (G : Id → Value) : Ext m G m G := fun _ => .inl ⟨rfl, rfl, rfl⟩

theorem Ext.pin (he : Ext m G m' G') {c : Id} {n : Nat} {v : Value} (h : n ≤ (m c).1 ∧ ((m c).1 = n → G c = v)) : n ≤ (m' c).1 ∧ ((m' c).1 = n → G' c = v) := by
  rcases he c with ⟨e1, e2, _⟩ | e
  · exact ⟨by omega, fun hn => by rw [e2]; exact h.2 (by omega)⟩
  · exact ⟨by omega, fun hn => by omega⟩

theorem RepLeaf.mono {x : Leaf} {v : Value} (h : RepLeaf w K m G x v) (hK : ∀ b, K b → K' b) (hs : SameOn K w w') (he : Ext m G m' G') : RepLeaf w' K' m' G' x v := by
  cases x with
  | any => trivial
  | d x => exact Rep.mono h hK hs
  | nil => exact h
  | own r n =>
    obtain ⟨h1, h2⟩ := h
    rcases he r with ⟨e1, e2, _⟩ | e
    · exact ⟨by omega, fun hn => by rw [e2]; exact h2 (by omega)⟩
    · exact ⟨by omega, fun hn => by omega⟩
  | «at» xs =>
    obtain ⟨b, off, rfl, hb, hc⟩ := h
    exact ⟨b, off, rfl, hK _ hb, fun j d hd => let ⟨u, hu, hr⟩ := hc j d hd; ⟨u, (hs.cell hb).trans hu, hr.mono hK hs⟩⟩
  | oat r n i j =>
    obtain ⟨h1, h2⟩ := h
    rcases he r with ⟨e1, e2, e3⟩ | e
    · exact ⟨by omega, fun hn => by rw [e2, e3]; exact h2 (by omega)⟩
    · exact ⟨by omega, fun hn => by omega⟩
  | ptr c n off =>
    obtain ⟨h1, b, hv, h2⟩ := h
    rcases he c with ⟨e1, e2, e3⟩ | e
    · exact ⟨by omega, b, hv, fun hn => by rw [e2]; exact h2 (by omega)⟩
    · exact ⟨by omega, b, hv, fun hn => by omega⟩
  | clo f caps =>
    obtain ⟨vs, rfl, hs', hc⟩ := h
    refine ⟨vs, rfl, hs', fun i c n hi => ?_⟩
    obtain ⟨h1, b, hv, h2⟩ := hc i c n hi
    rcases he c with ⟨e1, e2, e3⟩ | e
    · exact ⟨by omega, b, hv, fun hn => by rw [e2]; exact h2 (by omega)⟩
    · exact ⟨by omega, b, hv, fun hn => by omega⟩

theorem RepPV1.mono {x : PV} {v : Value} (h : RepPV1 w K m G x v) (hK : ∀ b, K b → K' b) (hs : SameOn K w w') (he : Ext m G m' G') : RepPV1 w' K' m' G' x v := by
  cases x with
  | l x =>
    cases x with
    | any => trivial
    | _ => exact ⟨h.1, RepLeaf.mono h.2 hK hs he⟩
  | agg xs =>
    obtain ⟨cs, rfl, hsz, hc⟩ := h
    exact ⟨cs, rfl, hsz, fun i x hx => let ⟨u, hu, h1, hr⟩ := hc i x hx; ⟨u, hu, h1, hr.mono hK hs he⟩⟩
  | tup xs => exact h.elim

theorem RepPV.mono {x : PV} {v : Value} (h : RepPV w K m G x v) (hK : ∀ b, K b → K' b) (hs : SameOn K w w') (he : Ext m G m' G') : RepPV w' K' m' G' x v := by
  cases x with
  | l x => exact RepPV1.mono (x := .l x) h hK hs he
  | agg xs => exact RepPV1.mono (x := .agg xs) h hK hs he
  | tup xs =>
    obtain ⟨vs, rfl, hsz, hc⟩ := h
    exact ⟨vs, rfl, hsz, fun i x hx => let ⟨u, hu, hr⟩ := hc i x hx; ⟨u, hu, hr.mono hK hs he⟩⟩

theorem RepPV.one {x : PV} {v : Value} (h : RepPV1 w K m G x v) : RepPV w K m G x v := by
  cases x with
  | l x => exact h
  | agg xs => exact h
  | tup xs => exact h.elim

/-- A cell reads as a leaf, and is one cell. -/
def RepCell (w : World) (K : Nat → Prop) (m : Mem) (G : Id → Value) (x : Leaf) (v : Value) : Prop := v.oneCell' = true ∧ RepLeaf w K m G x v

theorem RepCell.pv {x : Leaf} {v : Value} (h : RepCell w K m G x v) : RepPV w K m G (.l x) v := by
  cases x <;> first | trivial | exact h

theorem leaf_of_pv {x : Leaf} {v : Value} (h : RepPV w K m G (.l x) v) (hx : x ≠ .any) : RepCell w K m G x v := by
  cases x <;> first | exact absurd rfl hx | exact h

theorem rep_valueLeaf {v : Value} (h : v.oneCell' = true) : RepLeaf w K m G (valueLeaf v) v := by
  unfold valueLeaf
  split
  · exact rfl
  · trivial
  · trivial
  · trivial
  · exact .v h

theorem rep_constPV (v : Value) : RepPV w K m G (constPV v) v := by
  unfold constPV
  split
  · rename_i cs
    split
    · rename_i hall
      refine ⟨cs, rfl, by simp, fun i x hx => ?_⟩
      simp only [List.getElem?_map, Option.map_eq_some_iff] at hx
      obtain ⟨u, hu, rfl⟩ := hx
      have hu' : cs[i]? = some u := by rw [← Array.getElem?_toList]; exact hu
      have h1 : u.oneCell' = true := List.all_eq_true.1 hall u (List.mem_of_getElem? hu)
      exact ⟨u, hu', h1, rep_valueLeaf h1⟩
    · trivial
  · trivial
  · rename_i h1 h2
    have hv : v.oneCell' = true := by
      cases v <;> first | rfl | exact absurd rfl (h1 _) | exact absurd rfl (h2 _)
    exact RepCell.pv ⟨hv, rep_valueLeaf hv⟩

theorem rep_ev (h : Rel1 cx st a w K G B) (x : Operand) : RepPV w K st.mem G (st.ev x) (a.eval x) := by
  cases x with
  | tmp t => exact h.slots t
  | const v => exact rep_constPV v
  | global g => trivial
  | func f => exact ⟨rfl, #[], rfl, rfl, fun i c n hi => by simp at hi⟩

/-- What an operation must come to. -/
def Sound (P : Program) (cx : Cx) (st : St) (a : Act) (w : World) (s : Sem Next) (r : PV × Mem) : Prop :=
  ∃ nx w' K' G' B', s.run P w = .ok nx w' ∧ Rel1 cx { st with mem := r.2 } a w' K' G' B' ∧ ((∃ v, nx = .value v ∧ RepPV w' K' r.2 G' r.1 v) ∨ (nx = .skip ∧ r.1 = .l .any))

def valS (s : Sem Value) : Sem Next := do pure (.value (← s))
def unitS (s : Sem Unit) : Sem Next := do s; pure .skip

theorem run_valS {s : Sem Value} {v : Value} (h : s.run P w = .ok v w') : (valS s).run P w = .ok (.value v) w' := by
  simp only [valS, Sem.run_bind, h, Result.andThen_ok, Sem.run_pure]

theorem run_unitS {s : Sem Unit} (h : s.run P w = .ok () w') : (unitS s).run P w = .ok .skip w' := by
  simp only [unitS, Sem.run_bind, h, Result.andThen_ok, Sem.run_pure]

theorem sound_val (h : Rel1 cx st a w K G B) {s : Sem Value} {v : Value} {x : PV} (hr : s.run P w = .ok v w) (hx : RepPV w K st.mem G x v) : Sound P cx st a w (valS s) (x, st.mem) :=
  ⟨_, w, K, G, B, run_valS hr, h, .inl ⟨v, rfl, hx⟩⟩

theorem rep_d {x v : Value} (h : RepPV w K m G (.l (.d (.v x))) v) : v = x := by
  obtain ⟨_, h⟩ := h
  cases h
  rfl

theorem rep_mk {x : Value} (h : x.oneCell' = true) : RepPV w K m G (.l (.d (.v x))) x := ⟨h, .v h⟩

theorem run_pureOf {s : Sem Value} {v : Value} (h : pureOf s = some v) : s.run P w = .ok v w := by
  cases s <;> simp [pureOf] at h
  subst h
  rfl

theorem run_bin {op : BinOp} {t : TypeId} {x y v : Value} (h : binV op x y = some v) : (binOp op t x y).run P w = .ok v w ∧ v.oneCell' = true := by
  unfold binV at h
  split at h
  · rename_i k a k' b
    cases op <;> simp only [isShift, shiftInt, binInt, if_true, if_false, Bool.false_eq_true] at h <;>
      (repeat' split at h) <;> (try cases h) <;>
      simp_all [binOp, Op.intArith, Op.intDiv, Op.intBits, Op.intCmp, Op.shift, Value.oneCell'] <;> (intro _; omega)
  · rename_i a b
    cases op <;> simp only [binStr] at h <;> (repeat' split at h) <;> (try cases h) <;>
      simp_all [binOp, Op.stringOp, Value.oneCell'] <;> (try omega)
  · cases h

theorem run_un {op : UnOp} {k : IntKind} {n : Int} {v : Value} (h : unInt op k n = some v) : (Op.unary op (.int k n)).run P w = .ok v w ∧ v.oneCell' = true := by
  unfold unInt at h
  split at h <;> cases h <;> simp [Op.unary, Op.intArith, Op.intBits, Value.oneCell']


theorem boolT_spec {t : TypeId} (h : boolT P t = true) : P.underlying t = some .bool := by
  unfold boolT at h
  split at h
  · assumption
  · cases h

theorem elT_both {t e : TypeId} (h : elT P t = some e) : P.underlying t = some (.slice e) ∧ (P.info? e).isSome = true := by
  unfold elT at h
  split at h
  · split at h
    · cases h; exact ⟨‹_›, ‹_›⟩
    · cases h
  · cases h

theorem elT_spec {t e : TypeId} (h : elT P t = some e) : P.underlying t = some (.slice e) := (elT_both h).1

theorem isSome_elT {t : TypeId} (h : (elT P t).isSome = true) : ∃ e, P.underlying t = some (.slice e) := by
  cases he : elT P t with
  | none => rw [he] at h; cases h
  | some e => exact ⟨e, elT_spec he⟩

theorem run_guard (op : BinOp) (t : TypeId) (x y : Operand) (v u : Value) (hv : v.oneCell' = true) (hi : v ≠ .nilIface) : (eqGuard op t x y v u).run P w = .ok () w := by
  unfold eqGuard
  cases v <;> cases u <;> cases op <;> simp_all [Value.oneCell']

theorem run_equalIn_nil (d : Nat) (t e : TypeId) (x : Option Addr) (l c : Nat) (h : P.underlying t = some (.slice e)) : (Op.equalIn (d + 1) t (.slice x l c) (.slice none 0 0)).run P w = .ok x.isNone w := by
  cases x <;> simp [Op.equalIn, Sem.run_bind, run_underlying h]

theorem run_equal_nil (t e : TypeId) (x : Option Addr) (l c : Nat) (h : P.underlying t = some (.slice e)) : (Op.equal t (.slice x l c) (.slice none 0 0)).run P w = .ok x.isNone w := run_equalIn_nil 9999 t e x l c h

theorem run_eqlike {op : BinOp} {f : Bool → Value} (hf : isNilEq op = some f) {t : TypeId} {x y : Value} {r : Bool} (hx : (match x, y with | .bool _, .bool _ => true | .slice _ _ _, .slice _ _ _ => true | _, _ => false) = true)
    (hr : (Op.equal t x y).run P w = .ok r w) : (binOp op t x y).run P w = .ok (f r) w := by
  cases op <;> simp [isNilEq] at hf <;> subst hf <;> cases x <;> cases y <;> first | (cases hx; done) | simp [binOp, Sem.run_bind, hr]

theorem isNilEq_one {op : BinOp} {f : Bool → Value} (hf : isNilEq op = some f) (r : Bool) : (f r).oneCell' = true := by
  cases op <;> simp [isNilEq] at hf <;> subst hf <;> rfl

theorem sound_bin (h : Rel1 cx st a w K G B) {op : BinOp} {xt : TypeId} {X Y : Operand} {x y : PV} {vx vy : Value} {r : PV × Mem} (hx : RepPV w K st.mem G x vx) (hy : RepPV w K st.mem G y vy)
    (he : effBin P st.mem op xt x y = some r) : Sound P cx st a w (valS (do eqGuard op xt X Y vx vy; binOp op xt vx vy)) r := by
  unfold effBin at he
  split at he
  · rename_i p q
    split at he
    · rename_i hb
      split at he <;> cases he
      rename_i f hf
      obtain rfl := rep_d hx
      obtain rfl := rep_d hy
      refine sound_val h (v := f (p == q)) ?_ (rep_mk (isNilEq_one hf _))
      rw [Sem.run_bind, run_guard _ _ _ _ _ _ rfl (by simp)]
      exact run_eqlike hf rfl (run_equal_bool w xt p q (boolT_spec hb))
    · cases he
  · rename_i p q _
    split at he <;> cases he
    rename_i v hv
    obtain rfl := rep_d hx
    obtain rfl := rep_d hy
    obtain ⟨h1, h2⟩ := run_bin (P := P) (w := w) (t := xt) hv
    refine sound_val h (v := v) ?_ (rep_mk h2)
    rw [Sem.run_bind, run_guard _ _ _ _ _ _ (by unfold binV at hv; split at hv <;> first | rfl | cases hv) (by rintro rfl; simp [binV] at hv)]
    exact h1
  · split at he
    · rename_i hs
      split at he <;> cases he
      rename_i f hf
      obtain ⟨e, hu⟩ := isSome_elT hs
      obtain rfl := hx.2
      obtain rfl := hy.2
      refine sound_val h (v := f true) ?_ (rep_mk (isNilEq_one hf _))
      rw [Sem.run_bind, run_guard _ _ _ _ _ _ rfl (by simp)]
      exact run_eqlike hf rfl (run_equal_nil xt e none 0 0 hu)
    · cases he
  · split at he
    · rename_i hs
      split at he <;> cases he
      rename_i f hf
      obtain ⟨e, hu⟩ := isSome_elT hs
      obtain ⟨_, hx⟩ := hx
      obtain rfl := hy.2
      cases hx with
      | sl vs _ _ _ _ _ _ =>
      refine sound_val h (v := f false) ?_ (rep_mk (isNilEq_one hf _))
      rw [Sem.run_bind, run_guard _ _ _ _ _ _ rfl (by simp)]
      exact run_eqlike hf rfl (run_equal_nil xt e _ _ _ hu)
    · cases he
  · cases he

theorem sound_un (h : Rel1 cx st a w K G B) {op : UnOp} {x : PV} {vx : Value} {r : PV × Mem} (hx : RepPV w K st.mem G x vx)
    (he : effUn st.mem op x = some r) : Sound P cx st a w (valS (Op.unary op vx)) r := by
  unfold effUn at he
  split at he
  · split at he <;> cases he
    obtain rfl := rep_d hx
    exact sound_val h (by simp [Op.unary]) (rep_mk rfl)
  · split at he <;> cases he
    rename_i v hv
    obtain rfl := rep_d hx
    obtain ⟨h1, h2⟩ := run_un (P := P) (w := w) hv
    exact sound_val h h1 (rep_mk h2)
  · cases he

theorem sound_pick (h : Rel1 cx st a w K G B) {c x y : PV} {vc vx vy : Value} {r : PV × Mem} (hc : RepPV w K st.mem G c vc) (hx : RepPV w K st.mem G x vx) (hy : RepPV w K st.mem G y vy)
    (he : effPick st c x y = some r) : Sound P cx st a w (do pure (.value (if ← asBool vc then vx else vy))) r := by
  unfold effPick at he
  split at he <;> cases he
  rename_i t
  obtain rfl := rep_d hc
  refine ⟨_, w, K, G, B, ?_, h, .inl ⟨if t then vx else vy, rfl, ?_⟩⟩
  · simp [asBool, Sem.run_bind]
  · cases t
    · exact hy
    · exact hx

end Go.Proofs.Ytfnplmglpbihhaa.Vm
