/- Into the state: what is handed over becomes the state's own. -/
import Derived.Test.YtfnplmglpbihhaaVmH
namespace Go.Proofs.Ytfnplmglpbihhaa.Vm
open Go Go.RowKit
set_option linter.unusedVariables false
set_option linter.unusedSimpArgs false

variable {P : Program} {cx : Cx} {st : St} {a : Act} {w w' : World} {K K' : Nat → Prop} {G G' : Id → Value} {B B' : Id → Option Nat} {m m' : Mem} {L L' : List Nat}

def fromAL (P : Program) (m : Mem) (id : Id) (x : AL) : Leaf × Mem :=
  match x with
  | .d x => (.d x, m)
  | .own e xss => (.own id ((m id).1 + 1), mset m id ((m id).1 + 1, .row e (P.cellsOf e) xss))

def fromALs (P : Program) : Mem → Id → Nat → List AL → List Leaf × Mem
  | m, _, _, [] => ([], m)
  | m, id, k, x :: xs => ((fromAL P m (id ++ [k]) x).1 :: (fromALs P (fromAL P m (id ++ [k]) x).2 id (k + 1) xs).1, (fromALs P (fromAL P m (id ++ [k]) x).2 id (k + 1) xs).2)

def fromPtr (P : Program) (m : Mem) (id : Id) (ls : List AL) : Nat × Mem :=
  (((fromALs P m id 0 ls).2 id).1 + 1, mset (fromALs P m id 0 ls).2 id (((fromALs P m id 0 ls).2 id).1 + 1, .cell (fromALs P m id 0 ls).1))

def fromPtrs (P : Program) : Mem → Id → Nat → List (List AL) → List (Id × Nat) × Mem
  | m, _, _, [] => ([], m)
  | m, id, k, x :: xs => ((id ++ [k], (fromPtr P m (id ++ [k]) x).1) :: (fromPtrs P (fromPtr P m (id ++ [k]) x).2 id (k + 1) xs).1, (fromPtrs P (fromPtr P m (id ++ [k]) x).2 id (k + 1) xs).2)

def fromAV (P : Program) (m : Mem) (id : Id) : AV → PV × Mem
  | .l x => (.l (fromAL P m id x).1, (fromAL P m id x).2)
  | .agg xs => (.agg (fromALs P m id 0 xs).1, (fromALs P m id 0 xs).2)
  | .ptr ls => (.l (.ptr id (fromPtr P m id ls).1 0), (fromPtr P m id ls).2)
  | .clo f caps => (.l (.clo f (fromPtrs P m id 0 caps).1), (fromPtrs P m id 0 caps).2)

def fromAVs (P : Program) : Mem → Id → Id → Nat → List AV → List PV × Mem
  | m, _, _, _, [] => ([], m)
  | m, pre, suf, k, x :: xs => ((fromAV P m (pre ++ k :: suf) x).1 :: (fromAVs P (fromAV P m (pre ++ k :: suf) x).2 pre suf (k + 1) xs).1, (fromAVs P (fromAV P m (pre ++ k :: suf) x).2 pre suf (k + 1) xs).2)

def Given (cx : Cx) (st : St) (a : Act) (w : World) (K : Nat → Prop) (G : Id → Value) (L : List Nat) (m1 : Mem) (R : (Id → Value) → Prop) : Prop :=
  ∃ G' B', RelL cx { st with mem := m1 } a w K G' B' L ∧ R G' ∧ Ext st.mem G m1 G'

theorem nodup_right {xs ys : List Nat} (h : (xs ++ ys).Nodup) : ys.Nodup ∧ ∀ b ∈ xs, b ∉ ys := by
  rw [List.nodup_append] at h
  exact ⟨h.2.1, fun b hb hy => h.2.2 b hb b hy rfl⟩

theorem fromAL_sound {x : AL} {v : Value} {bl : List Nat} (id : Id) (h : RelL cx st a w K G B (bl ++ L)) (hx : ALRep P w K x v bl) :
    Given cx st a w K G L (fromAL P st.mem id x).2 (fun G' => RepLeaf w K (fromAL P st.mem id x).2 G' (fromAL P st.mem id x).1 v) := by
  cases x with
  | d x =>
    obtain ⟨hx, rfl⟩ := hx
    exact ⟨G, B, h, hx, .refl _ _⟩
  | own e xss =>
    obtain ⟨hx, rfl⟩ := hx
    obtain ⟨hn1, hn2⟩ := nodup_right h.loose.1
    refine ⟨updF G id v, updF B id v.ownBlock, h.set id ((st.mem id).1 + 1) (.row e (P.cellsOf e) xss) v v.ownBlock (.inl (by omega)) ⟨by rw [updF_same]; exact hx, by rw [updF_same, updF_same]⟩ (fun b hb => ?_) hn1 (fun b hb => .inl (List.mem_append_right _ hb)) (fun h1 _ => absurd rfl (h1 _ _ _)), ?_, ext_mset (by omega)⟩
    · have : b ∈ v.ownBlock.toList := by rw [hb]; simp
      exact ⟨List.mem_append_left _ this, hn2 b this⟩
    · show _ ≤ ((mset st.mem id _) id).1 ∧ (((mset st.mem id _) id).1 = _ → _)
      rw [mset_same]
      exact ⟨Nat.le_refl _, fun _ => (updF_same _ _ _).symm⟩

theorem fromALs_sound : ∀ (xs : List AL) {st : St} {G : Id → Value} {B : Id → Option Nat} {vs : List Value} {bl : List Nat} (id : Id) (k : Nat), RelL cx st a w K G B (bl ++ L) → RepL (ALRep P w K) xs vs bl →
    Given cx st a w K G L (fromALs P st.mem id k xs).2 (fun G' => Cells w K (fromALs P st.mem id k xs).2 G' vs (fromALs P st.mem id k xs).1)
  | [], st, G, B, vs, bl, id, k, h, hx => by
    cases hx
    exact ⟨G, B, h, ⟨rfl, fun i x hx => by simp [fromALs] at hx⟩, .refl _ _⟩
  | x :: xs, st, G, B, _, _, id, k, h, hx => by
    cases hx with
    | @cons _ _ v vs b bs h1 h2 =>
      obtain ⟨G1, B1, hR1, hr1, he1⟩ := fromAL_sound (L := bs ++ L) (id ++ [k]) (by rw [← List.append_assoc]; exact h) h1
      obtain ⟨G2, B2, hR2, hr2, he2⟩ := fromALs_sound xs (st := { st with mem := (fromAL P st.mem (id ++ [k]) x).2 }) id (k + 1) hR1 h2
      refine ⟨G2, B2, hR2, ⟨by simp [fromALs, hr2.1], fun i y hy => ?_⟩, he1.trans he2⟩
      cases i with
      | zero =>
        simp [fromALs] at hy
        subst hy
        exact ⟨v, rfl, h1.one, hr1.mono (fun _ hb => hb) (fun _ _ => rfl) he2⟩
      | succ i =>
        obtain ⟨u, q1, q2⟩ := hr2.2 i y (by simpa [fromALs] using hy)
        exact ⟨u, by simpa using q1, q2⟩

theorem setCell_sound {ls : List Leaf} {b n' : Nat} {cs : Array Value} {T : TypeId} (id : Id) (h : RelL cx st a w K G B (b :: L)) (hb : w.heap[b]? = some (.cells cs T (0, 0))) (hc : Cells w K st.mem G cs.toList ls)
    (hver : (st.mem id).1 < n' ∨ (n' = (st.mem id).1 ∧ .pointer (some ⟨b, 0, none⟩) = G id ∧ (st.mem id).2.z = 0)) :
    ∃ B', RelL cx { st with mem := mset st.mem id (n', .cell ls) } a w K (updF G id (.pointer (some ⟨b, 0, none⟩))) B' L ∧ Ext st.mem G (mset st.mem id (n', .cell ls)) (updF G id (.pointer (some ⟨b, 0, none⟩))) := by
  obtain ⟨hn1, hn2⟩ := nodup_right (xs := [b]) h.loose.1
  have hext : Ext st.mem G (mset st.mem id (n', .cell ls)) (updF G id (.pointer (some ⟨b, 0, none⟩))) := by
    rcases hver with hv | ⟨h1, h2, h3⟩
    · exact ext_mset hv
    · exact ext_same h1.symm h2 (by rw [h3]; rfl)
  refine ⟨updF B id (some b), h.set id n' (.cell ls) (.pointer (some ⟨b, 0, none⟩)) (some b) ?_ ⟨b, cs, T, updF_same _ _ _, updF_same _ _ _, hb, by simpa using hc.1, fun i x hx => ?_⟩ (fun k hk => ?_) hn1 (fun k hk => .inl (List.mem_cons_of_mem _ hk)) (fun _ h2 => absurd rfl (h2 _)), hext⟩
  · rcases hver with hv | ⟨h1, h2, h3⟩
    · exact .inl hv
    · exact .inr ⟨h1, h2, by rw [h3]; rfl⟩
  · obtain ⟨u, q1, q2, q3⟩ := hc.2 i x hx
    exact ⟨u, by simpa using q1, q2, q3.mono (fun _ hb => hb) (fun _ _ => rfl) hext⟩
  · cases hk
    exact ⟨by simp, hn2 b (by simp)⟩

theorem fromPtr_sound {ls : List AL} {v : Value} {bl : List Nat} (id : Id) (h : RelL cx st a w K G B (bl ++ L)) (hx : PtrRep P w K ls v bl) :
    Given cx st a w K G L (fromPtr P st.mem id ls).2 (fun G' => RepLeaf w K (fromPtr P st.mem id ls).2 G' (.ptr id (fromPtr P st.mem id ls).1 0) v ∧ G' id = v ∧ ((fromPtr P st.mem id ls).2 id).1 = (fromPtr P st.mem id ls).1) := by
  obtain ⟨b, cs, T, bl', rfl, hh, hr, rfl⟩ := hx
  obtain ⟨G1, B1, hR1, hc, he1⟩ := fromALs_sound (L := b :: L) ls id 0 (h.perm (by simp [List.perm_middle.symm])) hr
  obtain ⟨B2, hR2, he2⟩ := setCell_sound (st := { st with mem := (fromALs P st.mem id 0 ls).2 }) (n' := ((fromALs P st.mem id 0 ls).2 id).1 + 1) id hR1 hh hc (.inl (Nat.lt_succ_self _))
  refine ⟨_, B2, hR2, ⟨?_, updF_same _ _ _, by simp [fromPtr, mset_same]⟩, he1.trans he2⟩
  show _ ≤ ((mset _ id _) id).1 ∧ ∃ b, _ ∧ (((mset _ id _) id).1 = _ → _)
  rw [mset_same]
  exact ⟨Nat.le_refl _, b, rfl, fun _ => updF_same _ _ _⟩

theorem fromPtrs_sound : ∀ (xs : List (List AL)) {st : St} {G : Id → Value} {B : Id → Option Nat} {vs : List Value} {bl : List Nat} (id : Id) (k : Nat), RelL cx st a w K G B (bl ++ L) → RepL (PtrRep P w K) xs vs bl →
    Given cx st a w K G L (fromPtrs P st.mem id k xs).2 (fun G' => vs.length = (fromPtrs P st.mem id k xs).1.length ∧ ∀ (i : Nat) c n, (fromPtrs P st.mem id k xs).1[i]? = some (c, n) →
      n ≤ ((fromPtrs P st.mem id k xs).2 c).1 ∧ ∃ b, vs[i]? = some (.pointer (some ⟨b, 0, none⟩)) ∧ (((fromPtrs P st.mem id k xs).2 c).1 = n → G' c = .pointer (some ⟨b, 0, none⟩)))
  | [], st, G, B, vs, bl, id, k, h, hx => by
    cases hx
    exact ⟨G, B, h, ⟨rfl, fun i c n hi => by simp [fromPtrs] at hi⟩, .refl _ _⟩
  | x :: xs, st, G, B, _, _, id, k, h, hx => by
    cases hx with
    | @cons _ _ v vs b bs h1 h2 =>
      obtain ⟨G1, B1, hR1, ⟨hr1, hg1, hv1⟩, he1⟩ := fromPtr_sound (L := bs ++ L) (id ++ [k]) (by rw [← List.append_assoc]; exact h) h1
      obtain ⟨G2, B2, hR2, ⟨hl2, hr2⟩, he2⟩ := fromPtrs_sound xs (st := { st with mem := (fromPtr P st.mem (id ++ [k]) x).2 }) id (k + 1) hR1 h2
      refine ⟨G2, B2, hR2, ⟨by simp [fromPtrs, hl2], fun i c n hi => ?_⟩, he1.trans he2⟩
      cases i with
      | zero =>
        simp [fromPtrs] at hi
        obtain ⟨rfl, rfl⟩ := hi
        have := hr1.mono (fun _ hb => hb) (fun _ _ => rfl) he2
        obtain ⟨q0, b, q1, q2⟩ := this
        exact ⟨q0, b, by rw [q1]; rfl, q2⟩
      | succ i =>
        obtain ⟨q1, b, q2, q3⟩ := hr2 i c n (by simpa [fromPtrs] using hi)
        exact ⟨q1, b, by simpa using q2, q3⟩

theorem pv1_leaf {x : Leaf} {v : Value} (h1 : v.oneCell' = true) (h : RepLeaf w K m G x v) : RepPV1 w K m G (.l x) v := by
  cases x <;> first | trivial | exact ⟨h1, h⟩

theorem fromAV_sound {x : AV} {v : Value} {bl : List Nat} (id : Id) (h : RelL cx st a w K G B (bl ++ L)) (hx : AVRep P w K x v bl) :
    Given cx st a w K G L (fromAV P st.mem id x).2 (fun G' => RepPV1 w K (fromAV P st.mem id x).2 G' (fromAV P st.mem id x).1 v) := by
  cases x with
  | l x =>
    obtain ⟨G1, B1, hR1, hr1, he1⟩ := fromAL_sound id h hx
    refine ⟨G1, B1, hR1, ?_, he1⟩
    show RepPV1 w K _ G1 (.l (fromAL P st.mem id x).1) v
    exact pv1_leaf (ALRep.one hx) hr1
  | agg xs =>
    obtain ⟨cs, rfl, hx⟩ := hx
    obtain ⟨G1, B1, hR1, hr1, he1⟩ := fromALs_sound xs id 0 h hx
    exact ⟨G1, B1, hR1, ⟨cs, rfl, by simpa using hr1.1, fun i y hy => by
      obtain ⟨u, q1, q2⟩ := hr1.2 i y hy
      exact ⟨u, by simpa using q1, q2⟩⟩, he1⟩
  | ptr ls =>
    have hone : v.oneCell' = true := by obtain ⟨b, _, _, _, rfl, _⟩ := hx; rfl
    obtain ⟨G1, B1, hR1, ⟨hr1, _⟩, he1⟩ := fromPtr_sound id h hx
    exact ⟨G1, B1, hR1, ⟨hone, hr1⟩, he1⟩
  | clo f caps =>
    obtain ⟨vs, rfl, hx⟩ := hx
    obtain ⟨G1, B1, hR1, ⟨hl1, hr1⟩, he1⟩ := fromPtrs_sound caps id 0 h hx
    exact ⟨G1, B1, hR1, ⟨rfl, vs, rfl, by simpa using hl1, fun i c n hi => by
      obtain ⟨q1, b, q2, q3⟩ := hr1 i c n hi
      exact ⟨q1, b, by simpa using q2, q3⟩⟩, he1⟩

theorem fromAVs_sound : ∀ (xs : List AV) {st : St} {G : Id → Value} {B : Id → Option Nat} {vs : List Value} {bl : List Nat} (pre suf : Id) (k : Nat), RelL cx st a w K G B (bl ++ L) → RepL (AVRep P w K) xs vs bl →
    Given cx st a w K G L (fromAVs P st.mem pre suf k xs).2 (fun G' => vs.length = (fromAVs P st.mem pre suf k xs).1.length ∧ ∀ (i : Nat) x, (fromAVs P st.mem pre suf k xs).1[i]? = some x → ∃ u, vs[i]? = some u ∧ RepPV1 w K (fromAVs P st.mem pre suf k xs).2 G' x u)
  | [], st, G, B, vs, bl, pre, suf, k, h, hx => by
    cases hx
    exact ⟨G, B, h, ⟨rfl, fun i x hx => by simp [fromAVs] at hx⟩, .refl _ _⟩
  | x :: xs, st, G, B, _, _, pre, suf, k, h, hx => by
    cases hx with
    | @cons _ _ v vs b bs h1 h2 =>
      obtain ⟨G1, B1, hR1, hr1, he1⟩ := fromAV_sound (L := bs ++ L) (pre ++ k :: suf) (by rw [← List.append_assoc]; exact h) h1
      obtain ⟨G2, B2, hR2, ⟨hl2, hr2⟩, he2⟩ := fromAVs_sound xs (st := { st with mem := (fromAV P st.mem (pre ++ k :: suf) x).2 }) pre suf (k + 1) hR1 h2
      refine ⟨G2, B2, hR2, ⟨by simp [fromAVs, hl2], fun i y hy => ?_⟩, he1.trans he2⟩
      cases i with
      | zero =>
        simp [fromAVs] at hy
        subst hy
        exact ⟨v, rfl, hr1.mono (fun _ hb => hb) (fun _ _ => rfl) he2⟩
      | succ i =>
        obtain ⟨u, q1, q2⟩ := hr2 i y (by simpa [fromAVs] using hy)
        exact ⟨u, by simpa using q1, q2⟩

/-- Variables that come back. -/
def backs (P : Program) : Mem → List (Id × Nat) → List (List AL) → Option Mem
  | m, [], [] => some m
  | m, (c, n) :: cs, x :: xs => if (m c).1 = n ∧ ((fromALs P m c 0 x).2 c).1 = n ∧ ((fromALs P m c 0 x).2 c).2.z = 0 then backs P (mset (fromALs P m c 0 x).2 c (n, .cell (fromALs P m c 0 x).1)) cs xs else none
  | _, _, _ => none

theorem backs_sound : ∀ (cs : List (Id × Nat)) (xs : List (List AL)) {st : St} {G : Id → Value} {B : Id → Option Nat} {vs : List Value} {bl : List Nat} {m1 : Mem}, RelL cx st a w K G B (bl ++ L) → RepL (PtrRep P w K) xs vs bl →
    (∀ (i : Nat) c n, cs[i]? = some (c, n) → ∃ v, vs[i]? = some v ∧ ((st.mem c).1 = n → G c = v) ∧ n ≤ (st.mem c).1) → backs P st.mem cs xs = some m1 → Given cx st a w K G L m1 (fun _ => True)
  | [], [], st, G, B, vs, bl, m1, h, hx, hc, he => by
    simp [backs] at he
    subst he
    cases hx
    exact ⟨G, B, h, trivial, .refl _ _⟩
  | [], _ :: _, st, G, B, vs, bl, m1, h, hx, hc, he => by simp [backs] at he
  | _ :: _, [], st, G, B, vs, bl, m1, h, hx, hc, he => by simp [backs] at he
  | (c, n) :: cs, x :: xs, st, G, B, _, _, m1, h, hx, hc, he => by
    cases hx with
    | @cons _ _ v vs bb bs h1 h2 =>
      simp only [backs] at he
      split at he
      · rename_i hcond
        obtain ⟨b, cs', T, bl', rfl, hh, hr, rfl⟩ := h1
        obtain ⟨G1, B1, hR1, hcells, he1⟩ := fromALs_sound (L := b :: (bs ++ L)) x c 0 (h.perm (by
          rw [List.append_assoc]
          simp [List.perm_middle.symm])) hr
        obtain ⟨v', q1, q2, q3⟩ := hc 0 c n rfl
        simp at q1
        obtain ⟨hcur, hcond⟩ := hcond
        have hG : .pointer (some ⟨b, 0, none⟩) = G1 c := by
          rcases he1 c with ⟨e1, e2, _⟩ | e1
          · rw [e2, q2 hcur, ← q1]
          · have : ((fromALs P st.mem c 0 x).2 c).1 = n := hcond.1
            omega
        obtain ⟨B2, hR2, he2⟩ := setCell_sound (st := { st with mem := (fromALs P st.mem c 0 x).2 }) (n' := n) c hR1 hh hcells (.inr ⟨hcond.1.symm, hG, hcond.2⟩)
        obtain ⟨G3, B3, hR3, _, he3⟩ := backs_sound cs xs (st := { st with mem := mset (fromALs P st.mem c 0 x).2 c (n, .cell (fromALs P st.mem c 0 x).1) }) hR2 h2 (fun i c' n' hi => by
          obtain ⟨v', q1, q2, q3⟩ := hc (i + 1) c' n' (by simpa using hi)
          refine ⟨v', by simpa using q1, ?_⟩
          rcases (he1.trans he2) c' with ⟨e1, e2, _⟩ | e1
          · exact ⟨fun hn => by rw [e2]; exact q2 (by rw [← hn]; exact e1.symm), by show n' ≤ ((mset _ c _) c').1; rw [show ((mset (fromALs P st.mem c 0 x).2 c (n, .cell (fromALs P st.mem c 0 x).1)) c').1 = (st.mem c').1 from e1]; exact q3⟩
          · have e2 : (st.mem c').1 < ((mset (fromALs P st.mem c 0 x).2 c (n, .cell (fromALs P st.mem c 0 x).1)) c').1 := e1
            exact ⟨fun hn => by have : ((mset (fromALs P st.mem c 0 x).2 c (n, .cell (fromALs P st.mem c 0 x).1)) c').1 = n' := hn; omega, Nat.le_trans q3 (Nat.le_of_lt e2)⟩) he
        exact ⟨G3, B3, hR3, trivial, (he1.trans he2).trans he3⟩
      · cases he

end Go.Proofs.Ytfnplmglpbihhaa.Vm
