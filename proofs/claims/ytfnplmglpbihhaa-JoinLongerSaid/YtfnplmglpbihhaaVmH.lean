/- Contracts of functions over plain values, and how they meet the machine's state. -/
import Derived.Test.YtfnplmglpbihhaaVmG
namespace Go.Proofs.Ytfnplmglpbihhaa.Vm
open Go Go.RowKit
set_option linter.unusedVariables false
set_option linter.unusedSimpArgs false

variable {P : Program} {cx : Cx} {st : St} {a : Act} {w w' : World} {K K' : Nat → Prop} {G G' : Id → Value} {B B' : Id → Option Nat} {m m' : Mem} {L L' : List Nat}

/-- One cell that is handed over: data, or a row of its own. -/
inductive AL where
  | d (x : D)
  | own (e : TypeId) (xss : List (List D))

/-- What is handed over: a cell, a struct, a variable's address, a function with captured variables. -/
inductive AV where
  | l (x : AL)
  | agg (xs : List AL)
  | ptr (ls : List AL)
  | clo (f : Nat) (caps : List (List AL))

inductive RepL {α : Type} (R : α → Value → List Nat → Prop) : List α → List Value → List Nat → Prop where
  | nil : RepL R [] [] []
  | cons {x : α} {xs : List α} {v : Value} {vs : List Value} {b bs : List Nat} : R x v b → RepL R xs vs bs → RepL R (x :: xs) (v :: vs) (b ++ bs)

theorem RepL.mono {α : Type} {R R' : α → Value → List Nat → Prop} {xs : List α} {vs : List Value} {bs : List Nat} (h : RepL R xs vs bs) (hr : ∀ x v b, (∀ k ∈ b, k ∈ bs) → R x v b → R' x v b) : RepL R' xs vs bs := by
  induction h with
  | nil => exact .nil
  | cons h1 _ ih => exact .cons (hr _ _ _ (fun k hk => List.mem_append_left _ hk) h1) (ih (fun x v b hb h => hr x v b (fun k hk => List.mem_append_right _ (hb k hk)) h))

theorem RepL.len {α : Type} {R : α → Value → List Nat → Prop} {xs : List α} {vs : List Value} {bs : List Nat} (h : RepL R xs vs bs) : vs.length = xs.length := by
  induction h with
  | nil => rfl
  | cons _ _ ih => simp [ih]

def ALRep (P : Program) (w : World) (K : Nat → Prop) : AL → Value → List Nat → Prop
  | .d x, v, bs => Rep w K x v ∧ bs = []
  | .own e xss, v, bs => OwnRow w K e (P.cellsOf e) xss v ∧ bs = v.ownBlock.toList

theorem ALRep.one {x : AL} {v : Value} {bs : List Nat} (h : ALRep P w K x v bs) : v.oneCell' = true := by
  cases x with
  | d x => exact h.1.oneCell
  | own e xss =>
    obtain ⟨⟨flat, h1, _⟩, _⟩ := h
    rcases h1.2 with ⟨rfl, _⟩ | ⟨g, cap, cur, rfl, _⟩ <;> rfl

def PtrRep (P : Program) (w : World) (K : Nat → Prop) (ls : List AL) (v : Value) (bs : List Nat) : Prop :=
  ∃ b cs T bl, v = .pointer (some ⟨b, 0, none⟩) ∧ w.heap[b]? = some (.cells cs T (0, 0)) ∧ RepL (ALRep P w K) ls cs.toList bl ∧ bs = b :: bl

def AVRep (P : Program) (w : World) (K : Nat → Prop) : AV → Value → List Nat → Prop
  | .l x, v, bs => ALRep P w K x v bs
  | .agg xs, v, bs => ∃ cs : Array Value, v = .agg cs ∧ RepL (ALRep P w K) xs cs.toList bs
  | .ptr ls, v, bs => PtrRep P w K ls v bs
  | .clo f caps, v, bs => ∃ vs : Array Value, v = .func (.func f) #[] vs ∧ RepL (PtrRep P w K) caps vs.toList bs

theorem OwnRow.mono {e z : Nat} {xss : List (List D)} {v : Value} (h : OwnRow w K e z xss v) (hK : ∀ b, K b → K' b) (hs : SameOn K w w') (hb : ∀ b, v.ownBlock = some b → w'.heap[b]? = w.heap[b]?) : OwnRow w' K' e z xss v := by
  obtain ⟨flat, h1, h2, h3⟩ := h
  exact ⟨flat, ownsRow_same h1 hb, h2.mono hK hs, h3⟩

theorem ALRep.mono {x : AL} {v : Value} {bs : List Nat} (h : ALRep P w K x v bs) (hK : ∀ b, K b → K' b) (hs : SameOn K w w') (hb : ∀ b ∈ bs, w'.heap[b]? = w.heap[b]?) : ALRep P w' K' x v bs := by
  cases x with
  | d x => exact ⟨h.1.mono hK hs, h.2⟩
  | own e xss => exact ⟨h.1.mono hK hs (fun b hv => hb b (by rw [h.2, hv]; simp)), h.2⟩

theorem PtrRep.mono {ls : List AL} {v : Value} {bs : List Nat} (h : PtrRep P w K ls v bs) (hK : ∀ b, K b → K' b) (hs : SameOn K w w') (hb : ∀ b ∈ bs, w'.heap[b]? = w.heap[b]?) : PtrRep P w' K' ls v bs := by
  obtain ⟨b, cs, T, bl, rfl, h2, h3, rfl⟩ := h
  exact ⟨b, cs, T, bl, rfl, (hb b (by simp)).trans h2, h3.mono (fun x v b' hb' hr => hr.mono hK hs (fun k hk => hb k (by simp [hb' k hk]))), rfl⟩

theorem AVRep.mono {x : AV} {v : Value} {bs : List Nat} (h : AVRep P w K x v bs) (hK : ∀ b, K b → K' b) (hs : SameOn K w w') (hb : ∀ b ∈ bs, w'.heap[b]? = w.heap[b]?) : AVRep P w' K' x v bs := by
  cases x with
  | l x => exact ALRep.mono h hK hs hb
  | agg xs =>
    obtain ⟨cs, rfl, h⟩ := h
    exact ⟨cs, rfl, h.mono (fun x v b' hb' hr => hr.mono hK hs (fun k hk => hb k (hb' k hk)))⟩
  | ptr ls => exact PtrRep.mono h hK hs hb
  | clo f caps =>
    obtain ⟨vs, rfl, h⟩ := h
    exact ⟨vs, rfl, h.mono (fun x v b' hb' hr => hr.mono hK hs (fun k hk => hb k (hb' k hk)))⟩

def ptrsOf : AV → Value → List Value
  | .ptr _, v => [v]
  | .clo _ _, .func _ _ vs => vs.toList
  | _, _ => []

def ptrs : List AV → List Value → List Value
  | x :: xs, v :: vs => ptrsOf x v ++ ptrs xs vs
  | _, _ => []

def resVal : List Value → Value
  | [v] => v
  | vs => .tuple vs.toArray

/-- A function's contract: handed these, it hands back those; what its addresses lead to is then as told. -/
def VFun (P : Program) (f : FuncId) (as : List AV) (rs : List AV) (outs : List (List AL)) : Prop :=
  ∀ (w : World) (K : Nat → Prop) (vs : List Value) (bs : List Nat), RepL (AVRep P w K) as vs bs → bs.Nodup → (∀ b ∈ bs, ¬ K b ∧ b < w.heap.size) → (∀ b, K b → b < w.heap.size) →
    Calls P f vs.toArray w fun e w' => ∃ K' rv bs1 bs2, e = .returned (resVal rv) ∧ RepL (AVRep P w' K') rs rv bs1 ∧ RepL (PtrRep P w' K') outs (ptrs as vs) bs2 ∧
      (bs1 ++ bs2).Nodup ∧ (∀ b ∈ bs1 ++ bs2, ¬ K' b ∧ b < w'.heap.size ∧ (b ∈ bs ∨ w.heap.size ≤ b)) ∧ (∀ b, K b → K' b) ∧
      (∀ b, K' b → b < w'.heap.size ∧ (K b ∨ b ∈ bs ∨ w.heap.size ≤ b)) ∧ w'.os = w.os ∧ w'.tape = w.tape ∧ w'.output = w.output ∧ w.heap.size ≤ w'.heap.size ∧
      ∀ b, b < w.heap.size → b ∉ bs → w'.heap[b]? = w.heap[b]?

/-- Blocks that nobody holds just now. -/
def Loose (cx : Cx) (w : World) (K : Nat → Prop) (B : Id → Option Nat) (L : List Nat) : Prop :=
  L.Nodup ∧ ∀ b ∈ L, ¬ K b ∧ b < w.heap.size ∧ (cx.w0.heap.size ≤ b ∨ cx.lent b) ∧ ∀ id, B id ≠ some b

structure RelL (cx : Cx) (st : St) (a : Act) (w : World) (K : Nat → Prop) (G : Id → Value) (B : Id → Option Nat) (L : List Nat) : Prop where
  rel : Rel1 cx st a w K G B
  loose : Loose cx w K B L

theorem RelL.of (h : Rel1 cx st a w K G B) : RelL cx st a w K G B [] := ⟨h, by simp, by simp⟩

theorem RelL.set (h : RelL cx st a w K G B L) (id : Id) (n' : Nat) (e' : Ent) (v' : Value) (b' : Option Nat)
    (hver : (st.mem id).1 < n' ∨ (n' = (st.mem id).1 ∧ v' = G id ∧ e'.z = (st.mem id).2.z))
    (hent : EntRep w K (mset st.mem id (n', e')) (updF G id v') (updF B id b') id e')
    (hb' : ∀ b, b' = some b → b ∈ L ∧ b ∉ L') (hL : L'.Nodup) (hsub : ∀ b ∈ L', b ∈ L ∨ B id = some b)
    (hdead : (∀ e z xss, e' ≠ .row e z xss) → (∀ ls, e' ≠ .cell ls) → b' = none) :
    RelL cx { st with mem := mset st.mem id (n', e') } a w K (updF G id v') (updF B id b') L' := by
  obtain ⟨h, hl1, hl2⟩ := h
  have hsame : SameOn K w w := fun _ _ => rfl
  have hext : Ext st.mem G (mset st.mem id (n', e')) (updF G id v') := by
    intro id'
    by_cases hi : id' = id
    · subst hi
      rw [mset_same, updF_same]
      rcases hver with hv | ⟨h1, h2, h3⟩
      · exact .inr hv
      · exact .inl ⟨h1, h2, h3⟩
    · rw [mset_ne _ _ hi, updF_ne _ _ hi]
      exact .inl ⟨rfl, rfl, rfl⟩
  refine ⟨?_, hL, fun b hb => ?_⟩
  · exact {
      slots := fun t => RepPV.mono (h.slots t) (fun _ hb => hb) hsame hext
      len := h.len
      defers := h.defers
      os := h.os
      tape := h.tape
      output := h.output
      size := h.size
      frame := h.frame
      kept := h.kept
      keptLt := h.keptLt
      keptIn := h.keptIn
      ents := fun id' => by
        by_cases hi : id' = id
        · subst hi
          show EntRep w K _ _ _ _ ((mset st.mem id' (n', e')) id').2
          rw [mset_same]
          exact hent
        · show EntRep w K _ _ _ _ ((mset st.mem id (n', e')) id').2
          rw [mset_ne _ _ hi]
          exact EntRep.mono (h.ents id') (fun _ hb => hb) hsame hext (updF_ne _ _ hi) (updF_ne _ _ hi) (fun _ _ => rfl)
      dead := fun id' => by
        by_cases hi : id' = id
        · subst hi
          show (∀ e z xss, ((mset st.mem id' (n', e')) id').2 ≠ _) → (∀ ls, ((mset st.mem id' (n', e')) id').2 ≠ _) → _
          rw [mset_same, updF_same]
          exact hdead
        · show (∀ e z xss, ((mset st.mem id (n', e')) id').2 ≠ _) → (∀ ls, ((mset st.mem id (n', e')) id').2 ≠ _) → _
          rw [mset_ne _ _ hi, updF_ne _ _ hi]
          exact h.dead id'
      inj := fun i1 i2 b h1 h2 => by
        by_cases e1 : i1 = id <;> by_cases e2 : i2 = id
        · rw [e1, e2]
        · rw [e1, updF_same] at h1
          rw [updF_ne _ _ e2] at h2
          exact absurd h2 ((hl2 b (hb' b h1).1).2.2.2 i2)
        · rw [e2, updF_same] at h2
          rw [updF_ne _ _ e1] at h1
          exact absurd h1 ((hl2 b (hb' b h2).1).2.2.2 i1)
        · rw [updF_ne _ _ e1] at h1
          rw [updF_ne _ _ e2] at h2
          exact h.inj i1 i2 b h1 h2
      mine := fun i1 b h1 => by
        by_cases e1 : i1 = id
        · rw [e1, updF_same] at h1
          obtain ⟨k1, k2, k3, _⟩ := hl2 b (hb' b h1).1
          exact ⟨k1, k2, k3⟩
        · rw [updF_ne _ _ e1] at h1
          exact h.mine i1 b h1
      pins := fun c n v hp => hext.pin (h.pins c n v hp) }
  · have key : ¬ K b ∧ b < w.heap.size ∧ (cx.w0.heap.size ≤ b ∨ cx.lent b) ∧ ∀ id', id' ≠ id → B id' ≠ some b := by
      rcases hsub b hb with hb | hb
      · obtain ⟨k1, k2, k3, k4⟩ := hl2 b hb
        exact ⟨k1, k2, k3, fun id' _ => k4 id'⟩
      · obtain ⟨k1, k2, k3⟩ := h.mine id b hb
        exact ⟨k1, k2, k3, fun id' hi hid => hi (h.inj _ _ b hid hb)⟩
    refine ⟨key.1, key.2.1, key.2.2.1, fun id' => ?_⟩
    by_cases hi : id' = id
    · rw [hi, updF_same]
      intro he
      exact (hb' b he).2 hb
    · rw [updF_ne _ _ hi]
      exact key.2.2.2 id' hi

/-! ### Out of the state -/

inductive LM where
  | d
  | own (e : TypeId)

inductive Md where
  | l (x : LM)
  | agg (xs : List LM)
  | ptr (xs : List LM)
  | clo (xs : List (List LM))

def toAL (P : Program) (m : Mem) (md : LM) (x : Leaf) : Option (AL × Mem) :=
  match md with
  | .d => match asD m x with | some (d, m1) => some (.d d, m1) | none => none
  | .own e => match x with
    | .nil => some (.own e [], m)
    | .own r n => match m r with
      | (n', .row e' z xss) => if n' = n ∧ e' = e ∧ z = P.cellsOf e then some (.own e xss, mset m r (n + 1, .none)) else none
      | _ => none
    | _ => none

def toALs (P : Program) : Mem → List LM → List Leaf → Option (List AL × Mem)
  | m, [], [] => some ([], m)
  | m, md :: mds, x :: xs => match toAL P m md x with
    | some (y, m1) => match toALs P m1 mds xs with
      | some (ys, m2) => some (y :: ys, m2)
      | none => none
    | none => none
  | _, _, _ => none

def toPtr (P : Program) (m : Mem) (mds : List LM) (c : Id) (n : Nat) : Option (List AL × Mem) :=
  match m c with
  | (n', .cell ls) => if n' = n then toALs P (mset m c (n, .none)) mds ls else none
  | _ => none

def toPtrs (P : Program) : Mem → List (List LM) → List (Id × Nat) → Option (List (List AL) × Mem)
  | m, [], [] => some ([], m)
  | m, md :: mds, x :: xs => match toPtr P m md x.1 x.2 with
    | some (y, m1) => match toPtrs P m1 mds xs with
      | some (ys, m2) => some (y :: ys, m2)
      | none => none
    | none => none
  | _, _, _ => none

def toAV (P : Program) (m : Mem) (md : Md) (x : PV) : Option (AV × Mem) :=
  match md, x with
  | .l lm, .l x => match toAL P m lm x with | some (y, m1) => some (.l y, m1) | none => none
  | .agg lms, .agg xs => match toALs P m lms xs with | some (y, m1) => some (.agg y, m1) | none => none
  | .ptr lms, .l (.ptr c n 0) => match toPtr P m lms c n with | some (y, m1) => some (.ptr y, m1) | none => none
  | .clo lms, .l (.clo f caps) => match toPtrs P m lms caps with | some (y, m1) => some (.clo f y, m1) | none => none
  | _, _ => none

def toAVs (P : Program) : Mem → List Md → List PV → Option (List AV × Mem)
  | m, [], [] => some ([], m)
  | m, md :: mds, x :: xs => match toAV P m md x with
    | some (y, m1) => match toAVs P m1 mds xs with
      | some (ys, m2) => some (y :: ys, m2)
      | none => none
    | none => none
  | _, _, _ => none

/-- One step out of the state: what was handed over, and the blocks that went with it. -/
def Took (cx : Cx) (st : St) (a : Act) (w : World) (K : Nat → Prop) (G : Id → Value) (L : List Nat) (m1 : Mem) (R : (Nat → Prop) → List Nat → Prop) : Prop :=
  ∃ K' B' bl, RelL cx { st with mem := m1 } a w K' G B' (bl ++ L) ∧ (∀ b, K b → K' b) ∧ R K' bl ∧ Ext st.mem G m1 G

theorem toAL_sound {md : LM} {x : Leaf} {u : Value} {y : AL} {m1 : Mem} (h : RelL cx st a w K G B L) (h1 : u.oneCell' = true) (hx : RepLeaf w K st.mem G x u) (he : toAL P st.mem md x = some (y, m1)) :
    Took cx st a w K G L m1 (fun K' bl => ALRep P w K' y u bl) := by
  unfold toAL at he
  split at he
  · split at he <;> cases he
    rename_i d hd
    obtain ⟨K', B', hR, hK, hr, hext, hK2, hB2⟩ := sound_asD h.rel (pv_cell h1 hx) hd
    refine ⟨K', B', [], ⟨hR, h.loose.1, fun b hb => ?_⟩, hK, ⟨hr, rfl⟩, hext⟩
    obtain ⟨k1, k2, k3, k4⟩ := h.loose.2 b hb
    refine ⟨fun hk => ?_, k2, k3, fun id hid => k4 id (hB2 id b hid)⟩
    rcases hK2 b hk with hk | ⟨id, hid⟩
    · exact k1 hk
    · exact k4 id hid
  · rename_i e
    split at he
    · cases he
      obtain rfl := hx
      refine ⟨K, B, [], h, fun _ hb => hb, ⟨⟨[], World.ownsRow_nil w 0 e _, ⟨by simp, fun i j d hd => by simp [cellAt] at hd⟩, by simp⟩, rfl⟩, .refl _ _⟩
    · rename_i r n
      split at he
      · rename_i n' e' z xss hm
        split at he <;> cases he
        rename_i hc
        obtain ⟨rfl, rfl, rfl⟩ := hc
        obtain ⟨hle, hag⟩ := hx
        obtain rfl := hag (by rw [hm])
        have hE := h.rel.ents r
        rw [hm] at hE
        have hnot : ∀ b, B r = some b → b ∉ L := fun b hb hl => (h.loose.2 b hl).2.2.2 r hb
        have := h.set (L' := (G r).ownBlock.toList ++ L) r (n' + 1) .none (G r) none (.inl (by rw [hm]; exact Nat.lt_succ_self _)) trivial (fun b hb => by cases hb)
          (by
            cases hb : (G r).ownBlock with
            | none => simpa using h.loose.1
            | some b => simpa using ⟨hnot b (hE.2.trans hb), h.loose.1⟩)
          (fun b hb => by
            rcases List.mem_append.1 hb with hb | hb
            · right
              cases hg : (G r).ownBlock with
              | none => rw [hg] at hb; simp at hb
              | some b2 => rw [hg] at hb; simp at hb; rw [hE.2, hg, hb]
            · exact .inl hb) (fun _ _ => rfl)
        rw [setF_self] at this
        refine ⟨K, _, (G r).ownBlock.toList, this, fun _ hb => hb, ⟨hE.1, rfl⟩, fun id' => ?_⟩
        by_cases hi : id' = r
        · subst hi; rw [mset_same, hm]; exact .inr (Nat.lt_succ_self _)
        · rw [mset_ne _ _ hi]; exact .inl ⟨rfl, rfl, rfl⟩
      · cases he
    · cases he

theorem Ext.trans {m1 m2 m3 : Mem} {G1 G2 G3 : Id → Value} (h : Ext m1 G1 m2 G2) (h' : Ext m2 G2 m3 G3) : Ext m1 G1 m3 G3 := by
  intro id
  rcases h id with ⟨e1, e2, e3⟩ | e1 <;> rcases h' id with ⟨f1, f2, f3⟩ | f1
  · exact .inl ⟨f1.trans e1, f2.trans e2, f3.trans e3⟩
  · exact .inr (by omega)
  · exact .inr (by omega)
  · exact .inr (by omega)


theorem RelL.perm (h : RelL cx st a w K G B L) (hp : L.Perm L') : RelL cx st a w K G B L' :=
  ⟨h.rel, hp.nodup_iff.1 h.loose.1, fun b hb => h.loose.2 b (hp.mem_iff.2 hb)⟩

theorem perm3 (a b c : List Nat) : (b ++ (a ++ c)).Perm ((a ++ b) ++ c) := by
  rw [← List.append_assoc]
  exact List.perm_append_comm.append_right c

theorem toALs_sound : ∀ (mds : List LM) (xs : List Leaf) {st : St} {K : Nat → Prop} {B : Id → Option Nat} {L : List Nat} {us : List Value} {ys : List AL} {m1 : Mem}, RelL cx st a w K G B L → Cells w K st.mem G us xs →
    toALs P st.mem mds xs = some (ys, m1) → Took cx st a w K G L m1 (fun K' bl => RepL (ALRep P w K') ys us bl)
  | [], [], st, K, B, L, us, ys, m1, h, hc, he => by
    simp [toALs] at he
    obtain ⟨rfl, rfl⟩ := he
    have : us = [] := List.eq_nil_of_length_eq_zero (by simpa using hc.1)
    subst this
    exact ⟨K, B, [], h, fun _ hb => hb, .nil, .refl _ _⟩
  | [], _ :: _, st, K, B, L, us, ys, m1, h, hc, he => by simp [toALs] at he
  | _ :: _, [], st, K, B, L, us, ys, m1, h, hc, he => by simp [toALs] at he
  | md :: mds, x :: xs, st, K, B, L, us, ys, m1, h, hc, he => by
    simp only [toALs] at he
    split at he
    · rename_i y m0 h0
      split at he <;> cases he
      rename_i ys h2
      cases us with
      | nil => have := hc.1; simp at this
      | cons u us =>
        obtain ⟨u', k1, k2, k3⟩ := hc.2 0 x rfl
        simp at k1
        subst k1
        obtain ⟨K1, B1, b1, hR1, hK1, hr1, he1⟩ := toAL_sound h k2 k3 h0
        obtain ⟨K2, B2, b2, hR2, hK2, hr2, he2⟩ := toALs_sound mds xs (st := { st with mem := m0 }) hR1 (us := us) ⟨by have := hc.1; simpa using this, fun i x hx => by
          obtain ⟨u, q1, q2, q3⟩ := hc.2 (i + 1) x (by simpa using hx)
          exact ⟨u, by simpa using q1, q2, q3.mono hK1 (fun _ _ => rfl) he1⟩⟩ h2
        exact ⟨K2, B2, b1 ++ b2, hR2.perm (perm3 b1 b2 L), fun b hb => hK2 b (hK1 b hb), .cons (hr1.mono hK2 (fun _ _ => rfl) (fun _ _ => rfl)) hr2, he1.trans he2⟩
    · cases he

theorem toPtr_sound {mds : List LM} {c : Id} {n : Nat} {v : Value} {ys : List AL} {m1 : Mem} (h : RelL cx st a w K G B L) (hv : RepLeaf w K st.mem G (.ptr c n 0) v) (he : toPtr P st.mem mds c n = some (ys, m1)) :
    Took cx st a w K G L m1 (fun K' bl => PtrRep P w K' ys v bl) ∧ v = G c := by
  unfold toPtr at he
  split at he
  · rename_i n' ls hm
    split at he
    · rename_i hn
      subst hn
      obtain ⟨hle, b, rfl, hG⟩ := hv
      have hG := hG (by rw [hm])
      have hE := h.rel.ents c
      rw [hm] at hE
      obtain ⟨b', cs, T, hG', hB, hh, hsz, hc⟩ := hE
      rw [hG] at hG'
      cases hG'
      have hset := h.set (L' := b :: L) c n' .none (G c) none (.inr ⟨by rw [hm], rfl, by rw [hm]; rfl⟩) trivial (fun b hb => by cases hb)
        (by simpa using ⟨fun hl => (h.loose.2 b hl).2.2.2 c hB, h.loose.1⟩)
        (fun k hk => by
          rcases List.mem_cons.1 hk with rfl | hk
          · exact .inr hB
          · exact .inl hk) (fun _ _ => rfl)
      rw [setF_self] at hset
      have hext : Ext st.mem G (mset st.mem c (n', .none)) G := by
        intro id'
        by_cases hi : id' = c
        · subst hi; rw [mset_same, hm]; exact .inl ⟨rfl, rfl, rfl⟩
        · rw [mset_ne _ _ hi]; exact .inl ⟨rfl, rfl, rfl⟩
      have hcells : Cells w K (mset st.mem c (n', .none)) G cs.toList ls := ⟨by simpa using hsz, fun i x hx => by
        obtain ⟨u, q1, q2, q3⟩ := hc i x hx
        exact ⟨u, by simpa using q1, q2, q3.mono (fun _ hb => hb) (fun _ _ => rfl) hext⟩⟩
      obtain ⟨K2, B2, b2, hR2, hK2, hr2, he2⟩ := toALs_sound mds ls (st := { st with mem := mset st.mem c (n', .none) }) hset hcells he
      refine ⟨⟨K2, B2, b :: b2, ?_, hK2, ⟨b, cs, T, b2, rfl, hh, hr2, rfl⟩, hext.trans he2⟩, hG.symm⟩
      exact hR2.perm (by simp [List.perm_middle])
    · cases he
  · cases he

theorem toPtrs_sound : ∀ (mds : List (List LM)) (xs : List (Id × Nat)) {st : St} {K : Nat → Prop} {B : Id → Option Nat} {L : List Nat} {us : List Value} {ys : List (List AL)} {m1 : Mem}, RelL cx st a w K G B L →
    us.length = xs.length → (∀ (i : Nat) c n, xs[i]? = some (c, n) → n ≤ (st.mem c).1 ∧ ∃ b, us[i]? = some (.pointer (some ⟨b, 0, none⟩)) ∧ ((st.mem c).1 = n → G c = .pointer (some ⟨b, 0, none⟩))) →
    toPtrs P st.mem mds xs = some (ys, m1) → Took cx st a w K G L m1 (fun K' bl => RepL (PtrRep P w K') ys us bl) ∧ us = xs.map fun x => G x.1
  | [], [], st, K, B, L, us, ys, m1, h, hl, hc, he => by
    simp [toPtrs] at he
    obtain ⟨rfl, rfl⟩ := he
    have : us = [] := List.eq_nil_of_length_eq_zero (by simpa using hl)
    subst this
    exact ⟨⟨K, B, [], h, fun _ hb => hb, .nil, .refl _ _⟩, rfl⟩
  | [], _ :: _, st, K, B, L, us, ys, m1, h, hl, hc, he => by simp [toPtrs] at he
  | _ :: _, [], st, K, B, L, us, ys, m1, h, hl, hc, he => by simp [toPtrs] at he
  | md :: mds, (c, n) :: xs, st, K, B, L, us, ys, m1, h, hl, hc, he => by
    simp only [toPtrs] at he
    split at he
    · rename_i y m0 h0
      split at he <;> cases he
      rename_i ys h2
      cases us with
      | nil => simp at hl
      | cons u us =>
        obtain ⟨k1, b, k2, k3⟩ := hc 0 c n rfl
        have hcur : (st.mem c).1 = n := by
          unfold toPtr at h0
          split at h0
          · rename_i n' ls hm
            split at h0
            · rename_i hn; rw [hm]; exact hn
            · cases h0
          · cases h0
        have hGb := k3 hcur
        have hu : u = G c := by rw [hGb]; simpa using k2
        obtain ⟨⟨K1, B1, b1, hR1, hK1, hr1, he1⟩, _⟩ := toPtr_sound (v := u) h ⟨k1, b, by rw [hu, hGb], fun _ => hGb⟩ h0
        obtain ⟨⟨K2, B2, b2, hR2, hK2, hr2, he2⟩, hus⟩ := toPtrs_sound mds xs (st := { st with mem := m0 }) hR1 (us := us) (by simpa using hl) (fun i c n hx => by
          obtain ⟨q1, b, q2, q3⟩ := hc (i + 1) c n (by simpa using hx)
          rcases he1 c with ⟨e1, _, _⟩ | e1
          · exact ⟨by show n ≤ (m0 c).1; omega, b, by simpa using q2, fun hn => q3 (by rw [← hn]; exact e1.symm)⟩
          · exact ⟨by show n ≤ (m0 c).1; omega, b, by simpa using q2, fun hn => by have : (m0 c).1 = n := hn; omega⟩) h2
        exact ⟨⟨K2, B2, b1 ++ b2, hR2.perm (perm3 b1 b2 L), fun b hb => hK2 b (hK1 b hb), .cons (hr1.mono hK2 (fun _ _ => rfl) (fun _ _ => rfl)) hr2, he1.trans he2⟩, by rw [List.map_cons, ← hus, hu]⟩
    · cases he

/-- The variables whose addresses are handed over. -/
def cellsOf : PV → List (Id × Nat)
  | .l (.ptr c n _) => [(c, n)]
  | .l (.clo _ caps) => caps
  | _ => []

def cellsMd (md : Md) (x : PV) : List (Id × Nat) :=
  match md with
  | .ptr _ => cellsOf x
  | .clo _ => cellsOf x
  | _ => []

theorem toAV_sound {md : Md} {x : PV} {v : Value} {y : AV} {m1 : Mem} (h : RelL cx st a w K G B L) (hx : RepPV w K st.mem G x v) (he : toAV P st.mem md x = some (y, m1)) :
    Took cx st a w K G L m1 (fun K' bl => AVRep P w K' y v bl) ∧ ptrsOf y v = (cellsMd md x).map fun c => G c.1 := by
  cases md with
  | l lm =>
    cases x with
    | l x =>
      simp only [toAV] at he
      split at he
      · rename_i y0 m0 h0
        cases he
        have hne : x ≠ .any := by
          rintro rfl
          unfold toAL at h0
          split at h0
          · simp [asD] at h0
          · simp at h0
        obtain ⟨k1, k2⟩ := leaf_of_pv hx hne
        refine ⟨toAL_sound h k1 k2 h0, ?_⟩
        cases v <;> rfl
      · cases he
    | agg xs => simp [toAV] at he
    | tup xs => simp [toAV] at he
  | agg lms =>
    cases x with
    | agg xs =>
      simp only [toAV] at he
      split at he
      · rename_i y0 m0 h0
        cases he
        obtain ⟨cs, rfl, hsz, hc⟩ := hx
        obtain ⟨K2, B2, b2, hR2, hK2, hr2, he2⟩ := toALs_sound lms xs h (us := cs.toList) ⟨by simpa using hsz, fun i x hx => by
          obtain ⟨u, q1, q2⟩ := hc i x hx
          exact ⟨u, by simpa using q1, q2⟩⟩ h0
        exact ⟨⟨K2, B2, b2, hR2, hK2, ⟨cs, rfl, hr2⟩, he2⟩, rfl⟩
      · cases he
    | l x => simp [toAV] at he
    | tup xs => simp [toAV] at he
  | ptr lms =>
    cases x with
    | l x =>
      cases x with
      | ptr c n off =>
        cases off with
        | zero =>
          simp only [toAV] at he
          split at he
          · rename_i y0 m0 h0
            cases he
            obtain ⟨h1, h2⟩ := toPtr_sound h hx.2 h0
            exact ⟨h1, by rw [h2]; rfl⟩
          · cases he
        | succ off => simp [toAV] at he
      | _ => simp [toAV] at he
    | agg xs => simp [toAV] at he
    | tup xs => simp [toAV] at he
  | clo lms =>
    cases x with
    | l x =>
      cases x with
      | clo f caps =>
        simp only [toAV] at he
        split at he
        · rename_i y0 m0 h0
          cases he
          obtain ⟨_, vs, rfl, hsz, hc⟩ := hx
          obtain ⟨⟨K2, B2, b2, hR2, hK2, hr2, he2⟩, hus⟩ := toPtrs_sound lms caps h (us := vs.toList) (by simpa using hsz) (fun i c n hi => by
            obtain ⟨q1, b, q2, q3⟩ := hc i c n hi
            exact ⟨q1, b, by simpa using q2, q3⟩) h0
          exact ⟨⟨K2, B2, b2, hR2, hK2, ⟨vs, rfl, hr2⟩, he2⟩, hus⟩
        · cases he
      | _ => simp [toAV] at he
    | agg xs => simp [toAV] at he
    | tup xs => simp [toAV] at he

def cellsMds : List Md → List PV → List (Id × Nat)
  | md :: mds, x :: xs => cellsMd md x ++ cellsMds mds xs
  | _, _ => []

theorem toAVs_sound : ∀ (mds : List Md) (xs : List PV) {st : St} {K : Nat → Prop} {B : Id → Option Nat} {L : List Nat} {us : List Value} {ys : List AV} {m1 : Mem}, RelL cx st a w K G B L →
    us.length = xs.length → (∀ (i : Nat) x, xs[i]? = some x → ∃ u, us[i]? = some u ∧ RepPV w K st.mem G x u) →
    toAVs P st.mem mds xs = some (ys, m1) → Took cx st a w K G L m1 (fun K' bl => RepL (AVRep P w K') ys us bl) ∧ ptrs ys us = (cellsMds mds xs).map fun c => G c.1
  | [], [], st, K, B, L, us, ys, m1, h, hl, hc, he => by
    simp [toAVs] at he
    obtain ⟨rfl, rfl⟩ := he
    have : us = [] := List.eq_nil_of_length_eq_zero (by simpa using hl)
    subst this
    exact ⟨⟨K, B, [], h, fun _ hb => hb, .nil, .refl _ _⟩, rfl⟩
  | [], _ :: _, st, K, B, L, us, ys, m1, h, hl, hc, he => by simp [toAVs] at he
  | _ :: _, [], st, K, B, L, us, ys, m1, h, hl, hc, he => by simp [toAVs] at he
  | md :: mds, x :: xs, st, K, B, L, us, ys, m1, h, hl, hc, he => by
    simp only [toAVs] at he
    split at he
    · rename_i y m0 h0
      split at he <;> cases he
      rename_i ys h2
      cases us with
      | nil => simp at hl
      | cons u us =>
        obtain ⟨u', k1, k2⟩ := hc 0 x rfl
        simp at k1
        subst k1
        obtain ⟨⟨K1, B1, b1, hR1, hK1, hr1, he1⟩, hp⟩ := toAV_sound h k2 h0
        obtain ⟨⟨K2, B2, b2, hR2, hK2, hr2, he2⟩, hp2⟩ := toAVs_sound mds xs (st := { st with mem := m0 }) hR1 (us := us) (by simpa using hl) (fun i x hx => by
          obtain ⟨u, q1, q2⟩ := hc (i + 1) x (by simpa using hx)
          exact ⟨u, by simpa using q1, q2.mono hK1 (fun _ _ => rfl) he1⟩) h2
        refine ⟨⟨K2, B2, b1 ++ b2, hR2.perm (perm3 b1 b2 L), fun b hb => hK2 b (hK1 b hb), .cons (hr1.mono hK2 (fun _ _ => rfl) (fun _ _ => rfl)) hr2, he1.trans he2⟩, ?_⟩
        simp only [ptrs, cellsMds, List.map_append, hp2]
        rw [hp]
    · cases he

end Go.Proofs.Ytfnplmglpbihhaa.Vm
