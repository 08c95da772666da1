/- Soundness of the operations that make, freeze or turn memory. -/
import Derived.Test.YtfnplmglpbihhaaVmD
namespace Go.Proofs.Ytfnplmglpbihhaa.Vm
open Go Go.RowKit
set_option linter.unusedVariables false
set_option linter.unusedSimpArgs false

variable {P : Program} {cx : Cx} {st : St} {a : Act} {w w' : World} {K K' : Nat → Prop} {G G' : Id → Value} {B B' : Id → Option Nat} {m m' : Mem}

theorem mset_same (m : Mem) (id : Id) (x : Nat × Ent) : mset m id x id = x := by simp [mset]
theorem mset_ne (m : Mem) {id id' : Id} (x : Nat × Ent) (h : id' ≠ id) : mset m id x id' = m id' := by simp [mset, h]

theorem FlatRep.mono {z : Nat} {flat : List Value} {xss : List (List D)} (h : FlatRep w K z flat xss) (hK : ∀ b, K b → K' b) (hs : SameOn K w w') : FlatRep w' K' z flat xss :=
  ⟨h.1, fun i j d hd => let ⟨u, h1, h2⟩ := h.2 i j d hd; ⟨u, h1, h2.mono hK hs⟩⟩

theorem ownsRow_same {e z : Nat} {v : Value} {n : Nat} {flat : List Value} (h : w.ownsRow 0 e z v n flat) (hb : ∀ b, v.ownBlock = some b → w'.heap[b]? = w.heap[b]?) : w'.ownsRow 0 e z v n flat := by
  refine ⟨h.1, ?_⟩
  rcases h.2 with h1 | ⟨g, cap, cur, rfl, h1, h2, h3⟩
  · exact .inl h1
  · exact .inr ⟨g, cap, cur, rfl, h1, (hb g rfl).trans h2, h3⟩

theorem EntRep.mono {id : Id} {e : Ent} (h : EntRep w K m G B id e) (hK : ∀ b, K b → K' b) (hs : SameOn K w w') (he : Ext m G m' G') (hB : B' id = B id) (hG : G' id = G id)
    (hb : ∀ b, B id = some b → w'.heap[b]? = w.heap[b]?) : EntRep w' K' m' G' B' id e := by
  cases e with
  | none => trivial
  | row e z xss =>
    obtain ⟨⟨flat, h1, h2, h3⟩, h4⟩ := h
    refine ⟨⟨flat, ?_, h2.mono hK hs, h3⟩, by rw [hB, hG]; exact h4⟩
    rw [hG]
    exact ownsRow_same h1 (fun b hb' => hb b (h4.trans hb'))
  | frz z xss => exact ⟨by rw [hG]; exact h.1.mono hK hs, h.2⟩
  | cell ls =>
    obtain ⟨b, cs, T, h1, h2, h3, h4, h5⟩ := h
    exact ⟨b, cs, T, by rw [hG]; exact h1, by rw [hB]; exact h2, (hb b h2).trans h3, h4, fun i x hx => let ⟨u, k1, k2, k3⟩ := h5 i x hx; ⟨u, k1, k2, k3.mono hK hs he⟩⟩

def updF {α β : Type} [DecidableEq α] (f : α → β) (x : α) (y : β) : α → β := fun z => if z = x then y else f z
theorem updF_same {α β : Type} [DecidableEq α] (f : α → β) (x : α) (y : β) : updF f x y x = y := by simp [updF]
theorem updF_ne {α β : Type} [DecidableEq α] (f : α → β) {x z : α} (y : β) (h : z ≠ x) : updF f x y z = f z := by simp [updF, h]

theorem Rel1.upd (h : Rel1 cx st a w K G B) (id : Id) (n' : Nat) (e' : Ent) (v' : Value) (b' : Option Nat)
    (hw : w.grownBy w' (B id))
    (hver : (st.mem id).1 < n' ∨ (n' = (st.mem id).1 ∧ v' = G id ∧ e'.z = (st.mem id).2.z))
    (hent : EntRep w' K (mset st.mem id (n', e')) (updF G id v') (updF B id b') id e')
    (hb' : ∀ b, b' = some b → (B id = some b ∨ w.heap.size ≤ b) ∧ b < w'.heap.size)
    (hdead : (∀ e z xss, e' ≠ .row e z xss) → (∀ ls, e' ≠ .cell ls) → b' = none) :
    Rel1 cx { st with mem := mset st.mem id (n', e') } a w' K (updF G id v') (updF B id b') := by
  have hsame : SameOn K w w' := fun b hb => hw.block b (h.keptLt b hb) (fun e => (h.mine id b e.symm).1 hb)
  have hext : Ext st.mem G (mset st.mem id (n', e')) (updF G id v') := by
    intro id'
    by_cases hi : id' = id
    · subst hi
      rw [mset_same, updF_same]
      rcases hver with hv | ⟨h1, h2, h3⟩
      · exact .inr hv
      · exact .inl ⟨h1, h2, h3⟩
    · rw [mset_ne _ _ hi, updF_ne _ _ hi]
      exact .inl ⟨rfl, rfl, rfl⟩
  have hold : ∀ id', id' ≠ id → ∀ b, B id' = some b → w'.heap[b]? = w.heap[b]? := fun id' hi b hb =>
    hw.block b (h.mine id' b hb).2.1 (fun e => hi (h.inj id' id b hb e.symm))
  exact {
    slots := fun t => RepPV.mono (h.slots t) (fun _ hb => hb) hsame hext
    len := h.len
    defers := h.defers
    os := hw.os.trans h.os
    tape := hw.tape.trans h.tape
    output := hw.output.trans h.output
    size := Nat.le_trans h.size hw.size
    frame := fun b hb hl => (hw.block b (Nat.lt_of_lt_of_le hb h.size) (fun e => by
      rcases (h.mine id b e.symm).2.2 with k | k
      · omega
      · exact hl k)).trans (h.frame b hb hl)
    kept := h.kept
    keptLt := fun b hb => Nat.lt_of_lt_of_le (h.keptLt b hb) hw.size
    keptIn := h.keptIn
    ents := fun id' => by
      by_cases hi : id' = id
      · subst hi
        show EntRep w' K _ _ _ _ ((mset st.mem id' (n', e')) id').2
        rw [mset_same]
        exact hent
      · show EntRep w' K _ _ _ _ ((mset st.mem id (n', e')) id').2
        rw [mset_ne _ _ hi]
        exact EntRep.mono (h.ents id') (fun _ hb => hb) hsame hext (updF_ne _ _ hi) (updF_ne _ _ hi) (hold id' hi)
    dead := fun id' => by
      by_cases hi : id' = id
      · subst hi
        show (∀ e z xss, ((mset st.mem id' (n', e')) id').2 ≠ _) → (∀ ls, ((mset st.mem id' (n', e')) id').2 ≠ _) → _
        rw [mset_same, updF_same]
        exact hdead
      · show (∀ e z xss, ((mset st.mem id (n', e')) id').2 ≠ _) → (∀ ls, ((mset st.mem id (n', e')) id').2 ≠ _) → _
        rw [mset_ne _ _ hi, updF_ne _ _ hi]
        exact h.dead id'
    inj := fun i1 i2 b h1 h2 => by
      by_cases e1 : i1 = id <;> by_cases e2 : i2 = id
      · rw [e1, e2]
      · rw [e1, updF_same] at h1
        rw [updF_ne _ _ e2] at h2
        rcases (hb' b h1).1 with k | k
        · exact e1.trans (h.inj _ _ b k h2)
        · have := (h.mine i2 b h2).2.1; omega
      · rw [e2, updF_same] at h2
        rw [updF_ne _ _ e1] at h1
        rcases (hb' b h2).1 with k | k
        · exact (h.inj _ _ b h1 k).trans e2.symm
        · have := (h.mine i1 b h1).2.1; omega
      · rw [updF_ne _ _ e1] at h1
        rw [updF_ne _ _ e2] at h2
        exact h.inj i1 i2 b h1 h2
    mine := fun i1 b h1 => by
      by_cases e1 : i1 = id
      · rw [e1, updF_same] at h1
        obtain ⟨k1, k2⟩ := hb' b h1
        rcases k1 with k | k
        · obtain ⟨m1, _, m3⟩ := h.mine id b k
          exact ⟨m1, k2, m3⟩
        · exact ⟨fun hk => by have := h.keptLt b hk; omega, k2, .inl (Nat.le_trans h.size k)⟩
      · rw [updF_ne _ _ e1] at h1
        obtain ⟨m1, m2, m3⟩ := h.mine i1 b h1
        exact ⟨m1, Nat.lt_of_lt_of_le m2 hw.size, m3⟩
    pins := fun c n v hp => hext.pin (h.pins c n v hp) }

theorem rep_of_own {e z : Nat} {xss : List (List D)} {v : Value} (h : OwnRow w K e z xss v) (hK : ∀ b, K b → K' b) (hb : ∀ b, v.ownBlock = some b → K' b) : Rep w K' (.sl xss) v := by
  obtain ⟨flat, hown, ⟨hz, hf⟩, h1⟩ := h
  rcases hown.2 with ⟨rfl, h0⟩ | ⟨g, cap, cur, rfl, _, hg, hn, hm, hcs, htake⟩
  · obtain rfl := List.eq_nil_of_length_eq_zero h0
    exact .nil (by unfold maxLen; omega)
  · have hsame : SameOn K w w := fun _ _ => rfl
    refine .sl (z := z) (fun i j => flat.getD (i * z + j) undef) (hb g rfl) hn hm hz (fun i j d hd => ?_) (fun i j d hd => ?_)
    · obtain ⟨u, hu, hr⟩ := hf i j d hd
      have := hown.cells (g := g) rfl (i * z + j) u hu
      rw [Addr.add_lit] at this
      rw [List.getD_eq_getElem?_getD, hu, Nat.add_assoc]
      exact this
    · obtain ⟨u, hu, hr⟩ := hf i j d hd
      rw [List.getD_eq_getElem?_getD, hu]
      exact hr.mono hK hsame

theorem Rel1.freeze (h : Rel1 cx st a w K G B) {r : Id} {n e z : Nat} {xss : List (List D)} (hm : st.mem r = (n, .row e z xss)) :
    ∃ K' B', Rel1 cx { st with mem := mset st.mem r (n, .frz z xss) } a w K' G B' ∧ (∀ b, K b → K' b) ∧ Rep w K' (.sl xss) (G r) ∧ (∀ b, K' b → K b ∨ ∃ id, B id = some b) ∧ (∀ id b, B' id = some b → B id = some b) := by
  have hE := h.ents r
  rw [hm] at hE
  obtain ⟨hrow, hBr⟩ := hE
  have hK : ∀ b, K b → K b ∨ B r = some b := fun b hb => .inl hb
  have hrep : Rep w (fun b => K b ∨ B r = some b) (.sl xss) (G r) := rep_of_own hrow hK (fun b hb => .inr (hBr.trans hb))
  have hsame : SameOn K w w := fun _ _ => rfl
  have hext : Ext st.mem G (mset st.mem r (n, .frz z xss)) G := by
    intro id'
    by_cases hi : id' = r
    · subst hi
      rw [mset_same, hm]
      exact .inl ⟨rfl, rfl, rfl⟩
    · rw [mset_ne _ _ hi]
      exact .inl ⟨rfl, rfl, rfl⟩
  refine ⟨fun b => K b ∨ B r = some b, updF B r none, ?_, hK, hrep, fun b hb => hb.imp id (fun h => ⟨r, h⟩), fun id b hb => by
    by_cases hi : id = r
    · rw [hi, updF_same] at hb; cases hb
    · rwa [updF_ne _ _ hi] at hb⟩
  exact {
    slots := fun t => RepPV.mono (h.slots t) hK hsame hext
    len := h.len
    defers := h.defers
    os := h.os
    tape := h.tape
    output := h.output
    size := h.size
    frame := h.frame
    kept := fun b hb => .inl (h.kept b hb)
    keptLt := fun b hb => by
      rcases hb with hb | hb
      · exact h.keptLt b hb
      · exact (h.mine r b hb).2.1
    keptIn := fun b hb => by
      rcases hb with hb | hb
      · exact h.keptIn b hb
      · exact .inr (h.mine r b hb).2.2.symm
    ents := fun id' => by
      by_cases hi : id' = r
      · subst hi
        show EntRep w _ _ _ _ _ ((mset st.mem id' (n, .frz z xss)) id').2
        rw [mset_same]
        obtain ⟨flat, _, h2, _⟩ := hrow
        exact ⟨hrep, h2.1⟩
      · show EntRep w _ _ _ _ _ ((mset st.mem r (n, .frz z xss)) id').2
        rw [mset_ne _ _ hi]
        exact EntRep.mono (h.ents id') hK hsame hext (updF_ne _ _ hi) rfl (fun _ _ => rfl)
    dead := fun id' => by
      by_cases hi : id' = r
      · subst hi
        intro _ _
        exact updF_same _ _ _
      · show (∀ e z xss, ((mset st.mem r (n, _)) id').2 ≠ _) → (∀ ls, ((mset st.mem r (n, _)) id').2 ≠ _) → _
        rw [mset_ne _ _ hi, updF_ne _ _ hi]
        exact h.dead id'
    inj := fun i1 i2 b h1 h2 => by
      by_cases e1 : i1 = r
      · rw [e1, updF_same] at h1; cases h1
      · by_cases e2 : i2 = r
        · rw [e2, updF_same] at h2; cases h2
        · rw [updF_ne _ _ e1] at h1
          rw [updF_ne _ _ e2] at h2
          exact h.inj i1 i2 b h1 h2
    mine := fun i1 b h1 => by
      by_cases e1 : i1 = r
      · rw [e1, updF_same] at h1; cases h1
      · rw [updF_ne _ _ e1] at h1
        obtain ⟨m1, m2, m3⟩ := h.mine i1 b h1
        refine ⟨fun hk => ?_, m2, m3⟩
        rcases hk with hk | hk
        · exact m1 hk
        · exact e1 (h.inj _ _ b h1 hk)
    pins := fun c n v hp => hext.pin (h.pins c n v hp) }

theorem sound_asD (h : Rel1 cx st a w K G B) {x : Leaf} {v : Value} {d : D} {m1 : Mem} (hx : RepPV w K st.mem G (.l x) v) (hd : asD st.mem x = some (d, m1)) :
    ∃ K' B', Rel1 cx { st with mem := m1 } a w K' G B' ∧ (∀ b, K b → K' b) ∧ Rep w K' d v ∧ Ext st.mem G m1 G ∧ (∀ b, K' b → K b ∨ ∃ id, B id = some b) ∧ (∀ id b, B' id = some b → B id = some b) := by
  unfold asD at hd
  split at hd
  · cases hd
    exact ⟨K, B, h, fun _ hb => hb, hx.2, .refl _ _, fun _ hb => .inl hb, fun _ _ hb => hb⟩
  · cases hd
    obtain rfl := hx.2
    exact ⟨K, B, h, fun _ hb => hb, .nil (by unfold maxLen; omega), .refl _ _, fun _ hb => .inl hb, fun _ _ hb => hb⟩
  · rename_i r n
    obtain ⟨hle, hag⟩ := hx.2
    split at hd
    · rename_i n' e z xss hm
      split at hd <;> cases hd
      rename_i hn
      subst hn
      obtain ⟨K', B', h1, h2, h3, h4, h5⟩ := h.freeze hm
      obtain rfl := hag (by rw [hm])
      refine ⟨K', B', h1, h2, h3, fun id' => ?_, h4, h5⟩
      by_cases hi : id' = r
      · subst hi
        rw [mset_same, hm]
        exact .inl ⟨rfl, rfl, rfl⟩
      · rw [mset_ne _ _ hi]
        exact .inl ⟨rfl, rfl, rfl⟩
    · rename_i n' z xss hm
      split at hd <;> cases hd
      rename_i hn
      subst hn
      obtain rfl := hag (by rw [hm])
      have hE := h.ents r
      rw [hm] at hE
      exact ⟨K, B, h, fun _ hb => hb, hE.1, .refl _ _, fun _ hb => .inl hb, fun _ _ hb => hb⟩
    · cases hd
  · cases hd

/-- A list of cells as data. -/
theorem sound_asDs : ∀ (xs : List Leaf) {st : St} {K : Nat → Prop} {B : Id → Option Nat} (h : Rel1 cx st a w K G B) {vs : List Value} {ds : List D} {m1 : Mem},
    vs.length = xs.length → (∀ (i : Nat) x, xs[i]? = some x → ∃ u, vs[i]? = some u ∧ u.oneCell' = true ∧ RepLeaf w K st.mem G x u) → asDs st.mem xs = some (ds, m1) →
    ∃ K' B', Rel1 cx { st with mem := m1 } a w K' G B' ∧ (∀ b, K b → K' b) ∧ ds.length = xs.length ∧ (∀ (i : Nat) d, ds[i]? = some d → ∃ u, vs[i]? = some u ∧ Rep w K' d u) ∧ Ext st.mem G m1 G
  | [], st, K, B, h, vs, ds, m1, hl, hc, hd => by
    simp [asDs] at hd
    obtain ⟨rfl, rfl⟩ := hd
    exact ⟨K, B, h, fun _ hb => hb, rfl, fun i d hi => by simp at hi, .refl _ _⟩
  | x :: xs, st, K, B, h, vs, ds, m1, hl, hc, hd => by
    unfold asDs at hd
    split at hd
    · rename_i d m0 hd0
      split at hd <;> cases hd
      rename_i ds hds
      obtain ⟨u, hu, hu1, hur⟩ := hc 0 x rfl
      obtain ⟨K1, B1, h1, hK1, hr1, he1, _⟩ := sound_asD h (pv_cell hu1 hur) hd0
      cases vs with
      | nil => simp at hu
      | cons v vs =>
        simp at hu
        subst hu
        obtain ⟨K2, B2, h2, hK2, hl2, hr2, he2⟩ := sound_asDs xs (st := { st with mem := m0 }) h1 (vs := vs) (by simpa using hl) (fun i x hx => by
          obtain ⟨u, k1, k2, k3⟩ := hc (i + 1) x (by simpa using hx)
          exact ⟨u, by simpa using k1, k2, k3.mono hK1 (fun _ _ => rfl) he1⟩) hds
        refine ⟨K2, B2, h2, fun b hb => hK2 b (hK1 b hb), by simp [hl2], fun i d' hi => ?_, fun id' => ?_⟩
        · cases i with
          | zero =>
            simp at hi
            subst hi
            exact ⟨_, rfl, hr1.mono hK2 (fun _ _ => rfl)⟩
          | succ i =>
            obtain ⟨u, k1, k2⟩ := hr2 i d' (by simpa using hi)
            exact ⟨u, by simpa using k1, k2⟩
        · rcases he1 id' with ⟨e1, e2, e3⟩ | e1 <;> rcases he2 id' with ⟨f1, f2, f3⟩ | f1
          · exact .inl ⟨f1.trans e1, f2.trans e2, f3.trans e3⟩
          · exact .inr (by have : (m0 id').1 < (m1 id').1 := f1; omega)
          · exact .inr (by have : (m1 id').1 = (m0 id').1 := f1; omega)
          · exact .inr (Nat.lt_trans e1 f1)
    · cases hd


theorem bound_none {dflt : Nat} {l : Int} (h : boundOf dflt none = some l) : l = dflt := by
  simp [boundOf] at h; exact h.symm

theorem bound_some {dflt : Nat} {x : PV} {l : Int} (h : boundOf dflt (some x) = some l) : ∃ k, x = .l (.d (.v (.int k l))) := by
  unfold boundOf at h
  split at h
  · rename_i h'; cases h'
  · rename_i k i h'
    cases h'
    cases h
    exact ⟨k, rfl⟩
  · cases h

theorem run_bound {o : Operand} {dflt y : Nat} {l : Int} {code : BoundsCode} (h : Rel1 cx st a w K G B) (hl : boundOf dflt (some (st.ev o)) = some l) (h0 : 0 ≤ l) (h1 : l ≤ y) :
    (Instr.sliceBound (a.eval o) y code).run P w = .ok l.toNat w := by
  obtain ⟨k, hk⟩ := bound_some hl
  have hr := rep_ev h o
  rw [hk] at hr
  have hv := rep_int hr
  simp only [hv, Instr.sliceBound, asIntOf, Sem.run_bind, Sem.run_pure, Result.andThen_ok]
  rw [if_pos ⟨by omega, by omega⟩]
  simp

theorem run_bounds {isS : Bool} {len cap : Nat} {lo hi : Option Operand} {l u : Int} (hcap : len ≤ cap) (h : Rel1 cx st a w K G B)
    (hl : boundOf 0 (lo.map st.ev) = some l) (hu : boundOf len (hi.map st.ev) = some u) (h0 : 0 ≤ l) (h1 : l ≤ u) (h2 : u ≤ len) :
    (Instr.sliceBounds isS len cap (lo.map a.eval) (hi.map a.eval) none).run P w = .ok (l.toNat, u.toNat, cap) w := by
  cases hi with
  | none =>
    obtain rfl := bound_none hu
    cases lo with
    | none =>
      obtain rfl := bound_none hl
      simp [Instr.sliceBounds, Sem.run_bind]
    | some o =>
      have h3 := run_bound (P := P) (code := .sliceB) (y := len) h hl h0 h1
      simp [Instr.sliceBounds, Sem.run_bind, h3]
  | some o' =>
    have h4 := run_bound (P := P) (code := if isS then .sliceAcap else .sliceAlen) (y := cap) h hu (by omega) (by omega)
    cases lo with
    | none =>
      obtain rfl := bound_none hl
      simp [Instr.sliceBounds, Sem.run_bind, h4]
    | some o =>
      have h3 := run_bound (P := P) (code := .sliceB) (y := u.toNat) h hl h0 (by omega)
      simp [Instr.sliceBounds, Sem.run_bind, h3, h4]

theorem cellAt_mid {xss : List (List D)} {l u i j : Nat} {d : D} (h : cellAt ((xss.take u).drop l) i j = some d) : cellAt xss (l + i) j = some d := by
  unfold cellAt at *
  rw [List.getElem?_drop, List.getElem?_take] at h
  split at h
  · exact h
  · cases h

theorem rep_cut {xss : List (List D)} {A : Option Addr} {c l u z : Nat} (h : Rep w K (.sl xss) (.slice A xss.length c)) (hz : ∀ xs ∈ xss, xs.length = z) (h1 : l ≤ u) (h2 : u ≤ xss.length) :
    Rep w K (.sl ((xss.take u).drop l)) (.slice (if c = l then A else A.map (·.add (l * z))) (u - l) (c - l)) := by
  have hlen : ((xss.take u).drop l).length = u - l := by simp [Nat.min_eq_left h2]
  by_cases hlu : l = u
  · subst hlu
    have hc : c - l ≤ maxLen := by
      obtain ⟨_, c', h3, _, h4⟩ := h.slice
      cases h3
      omega
    rw [Nat.sub_self, show (xss.take l).drop l = [] from List.eq_nil_of_length_eq_zero (by omega)]
    exact .nil hc
  · cases h with
    | nil => simp at h2; omega
    | @sl z' b off _ _ vs hb hc hm hz' hcell hr =>
      have hne : ∃ xs, xs ∈ xss := by
        cases xss with
        | nil => simp at h2; omega
        | cons x _ => exact ⟨x, by simp⟩
      obtain ⟨xs0, hx0⟩ := hne
      have hzz : z' = z := (hz' _ hx0).symm.trans (hz _ hx0)
      subst hzz
      rw [if_neg (by omega), ← hlen]
      simp only [Option.map_some, Addr.add_lit]
      refine .sl (z := z') (fun i j => vs (l + i) j) hb (by omega) (by omega) (fun xs hx => hz' xs (List.mem_of_mem_take (List.mem_of_mem_drop hx))) (fun i j d hd => ?_) (fun i j d hd => hr _ _ _ (cellAt_mid hd))
      have := hcell _ _ _ (cellAt_mid hd)
      rw [show off + l * z' + i * z' + j = off + (l + i) * z' + j by rw [Nat.add_mul]; omega]
      exact this

theorem sound_slice (h : Rel1 cx st a w K G B) {t : TypeId} {x : Operand} {lo hi mx : Option Operand} {r : PV × Mem}
    (he : effSlice P st.mem t (st.ev x) (lo.map st.ev) (hi.map st.ev) (mx.map st.ev) = some r) : Sound P cx st a w (valS (Instr.sliceAt t (a.eval x) (lo.map a.eval) (hi.map a.eval) (mx.map a.eval))) r := by
  have hx := rep_ev h x
  unfold effSlice at he
  cases mx with
  | some _ => cases he
  | none =>
    simp only [Option.map_none] at he
    split at he
    · rename_i s hs
      rw [hs] at hx
      have hv := rep_d hx
      split at he
      · rename_i hst
        split at he
        · rename_i l u hl hu
          split at he <;> cases he
          rename_i hc
          obtain ⟨h0, h1, h2⟩ := hc
          have hb := run_bounds (P := P) (isS := false) (Nat.le_refl s.size) h hl hu h0 h1 h2
          refine sound_val h (v := .string (s.extract l.toNat u.toNat)) ?_ (rep_mk rfl)
          simp only [Instr.sliceAt, Sem.run_bind, run_underlying (strT_spec hst), Result.andThen_ok, hv, Instr.slice, Option.map_none, Option.isSome_none, Bool.false_eq_true, if_false, Sem.run_pure, hb]
        · cases he
      · cases he
    · rename_i x' hne hs
      rw [hs] at hx
      split at he
      · rename_i e xss m1 hel hd
        split at he
        · rename_i l u hl hu
          split at he <;> cases he
          rename_i hc
          obtain ⟨h0, h1, h2, hall⟩ := hc
          obtain ⟨K', B', hR, hK, hrep, hext, _⟩ := sound_asD h hx hd
          obtain ⟨hu', hi'⟩ := elT_both hel
          obtain ⟨A, c, hv, hlc, hcm⟩ := hrep.slice
          have hb := run_bounds (P := P) (isS := true) hlc h hl hu h0 h1 h2
          rw [hv] at hrep
          have hcut := rep_cut (l := l.toNat) (u := u.toNat) (z := P.cellsOf e) hrep (fun xs hxs => by simpa using List.all_eq_true.1 hall xs hxs) (by omega) (by omega)
          refine ⟨_, w, K', G, B', run_valS (v := .slice (if c = l.toNat then A else A.map (·.add (l.toNat * P.cellsOf e))) (u.toNat - l.toNat) (c - l.toNat)) ?_, hR, .inl ⟨_, rfl, rfl, hcut⟩⟩
          simp only [Instr.sliceAt, Sem.run_bind, run_underlying hu', Result.andThen_ok, hv, Instr.slice, Option.map_none, hb, run_size' hi', Sem.run_pure]
        · cases he
      · cases he
    · cases he

end Go.Proofs.Ytfnplmglpbihhaa.Vm
