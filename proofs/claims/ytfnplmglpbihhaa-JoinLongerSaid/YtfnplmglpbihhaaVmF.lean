/- Soundness of the operations that make memory. -/
import Derived.Test.YtfnplmglpbihhaaVmE
namespace Go.Proofs.Ytfnplmglpbihhaa.Vm
open Go Go.RowKit
set_option linter.unusedVariables false
set_option linter.unusedSimpArgs false

variable {P : Program} {cx : Cx} {st : St} {a : Act} {w w' : World} {K K' : Nat → Prop} {G G' : Id → Value} {B B' : Id → Option Nat} {m m' : Mem}

/-- Cells that read as leaves. -/
def Cells (w : World) (K : Nat → Prop) (m : Mem) (G : Id → Value) (cs : List Value) (ls : List Leaf) : Prop :=
  cs.length = ls.length ∧ ∀ (i : Nat) x, ls[i]? = some x → ∃ u, cs[i]? = some u ∧ u.oneCell' = true ∧ RepLeaf w K m G x u

theorem Cells.mono {cs : List Value} {ls : List Leaf} (h : Cells w K m G cs ls) (hK : ∀ b, K b → K' b) (hs : SameOn K w w') (he : Ext m G m' G') : Cells w' K' m' G' cs ls :=
  ⟨h.1, fun i x hx => let ⟨u, h1, h2, h3⟩ := h.2 i x hx; ⟨u, h1, h2, h3.mono hK hs he⟩⟩

theorem Cells.append {cs cs' : List Value} {ls ls' : List Leaf} (h : Cells w K m G cs ls) (h' : Cells w K m G cs' ls') : Cells w K m G (cs ++ cs') (ls ++ ls') := by
  refine ⟨by simp [h.1, h'.1], fun i x hx => ?_⟩
  by_cases hi : i < ls.length
  · rw [List.getElem?_append_left hi] at hx
    rw [List.getElem?_append_left (by rw [h.1]; exact hi)]
    exact h.2 i x hx
  · rw [List.getElem?_append_right (by omega)] at hx
    rw [List.getElem?_append_right (by rw [h.1]; omega), h.1]
    exact h'.2 _ x hx

theorem Cells.take {cs : List Value} {ls : List Leaf} (h : Cells w K m G cs ls) (n : Nat) : Cells w K m G (cs.take n) (ls.take n) := by
  refine ⟨by simp [h.1], fun i x hx => ?_⟩
  rw [List.getElem?_take] at *
  split at hx
  · rename_i hi
    rw [if_pos hi]
    exact h.2 i x hx
  · cases hx

theorem Cells.drop {cs : List Value} {ls : List Leaf} (h : Cells w K m G cs ls) (n : Nat) : Cells w K m G (cs.drop n) (ls.drop n) := by
  refine ⟨by simp [h.1], fun i x hx => ?_⟩
  rw [List.getElem?_drop] at *
  exact h.2 _ x hx

theorem Cells.overlay {cs cs' : List Value} {ls ls' ls2 : List Leaf} {off : Nat} (h : Cells w K m G cs ls) (h' : Cells w K m G cs' ls') (ho : overlay ls off ls' = some ls2) :
    Cells w K m G (cs.take off ++ cs' ++ cs.drop (off + cs'.length)) ls2 ∧ off + cs'.length ≤ cs.length := by
  unfold Vm.overlay at ho
  split at ho <;> cases ho
  rename_i hle
  refine ⟨?_, by rw [h.1, h'.1]; exact hle⟩
  rw [h'.1]
  exact ((h.take off).append h').append (h.drop _)

theorem cells_of_pv {x : PV} {v : Value} (h : RepPV w K m G x v) (hg : x.good = true) : Cells w K m G v.cells.toList x.leaves := by
  cases x with
  | l x =>
    have hx : x ≠ .any := by rintro rfl; simp [PV.good] at hg
    obtain ⟨h1, h2⟩ := leaf_of_pv h hx
    have hc : v.cells = #[v] := by cases v <;> first | rfl | (simp [Value.oneCell'] at h1; done)
    rw [hc]
    refine ⟨rfl, fun i y hy => ?_⟩
    cases i with
    | zero => simp [PV.leaves] at hy; subst hy; exact ⟨v, rfl, h1, h2⟩
    | succ i => simp [PV.leaves] at hy
  | agg xs =>
    obtain ⟨cs, rfl, hsz, hc⟩ := h
    refine ⟨by simp [Value.cells, PV.leaves, hsz], fun i x hx => ?_⟩
    obtain ⟨u, h1, h2⟩ := hc i x hx
    exact ⟨u, by simpa [Value.cells] using h1, h2⟩
  | tup xs => simp [PV.good] at hg

theorem foldl_set (off : Nat) : ∀ (l : List Value) (k : Nat) (cs : Array Value), off + k + l.length ≤ cs.size →
    (l.zipIdx k).foldl (fun (cs : Array Value) (p : Value × Nat) => cs.setIfInBounds (off + p.2) p.1) cs = (cs.toList.take (off + k) ++ l ++ cs.toList.drop (off + k + l.length)).toArray
  | [], k, cs, _ => by simp
  | v :: l, k, cs, h => by
    simp only [List.zipIdx_cons, List.foldl_cons]
    rw [foldl_set off l (k + 1) (cs.setIfInBounds (off + k) v) (by simp at h ⊢; omega)]
    congr 1
    have := list_seg_step cs.toList (off + k) v l (by simp at h ⊢; omega)
    simpa [Array.toList_setIfInBounds, Nat.add_assoc] using this

theorem fill_fold (off : Nat) (c cells : Array Value) (h : off + c.size ≤ cells.size) :
    c.zipIdx.foldl (fun (cs : Array Value) (p : Value × Nat) => cs.setIfInBounds (off + p.2) p.1) cells = (cells.toList.take off ++ c.toList ++ cells.toList.drop (off + c.toList.length)).toArray := by
  have := foldl_set off c.toList 0 cells (by simpa using h)
  rw [← Array.foldl_toList, Array.toList_zipIdx]
  simpa using this

theorem fill_rep {place : Nat → Option (Nat × Nat)} : ∀ (parts : List (Nat × Operand)) (ls ls2 : List Leaf) (cs : Array Value), Rel1 cx st a w K G B → Cells w K st.mem G cs.toList ls →
    fillL place ls (parts.map fun p => (p.1, st.ev p.2)) = some ls2 → ∃ cs2, Instr.fill place cs (parts.map fun p => (p.1, a.eval p.2)) = some cs2 ∧ Cells w K st.mem G cs2.toList ls2
  | [], ls, ls2, cs, h, hc, hf => by
    simp [fillL] at hf
    subst hf
    exact ⟨cs, rfl, hc⟩
  | (i, o) :: parts, ls, ls2, cs, h, hc, hf => by
    simp only [List.map_cons, fillL] at hf
    split at hf
    · rename_i off size hp
      split at hf
      · rename_i hg
        split at hf
        · rename_i c hov
          have hcells := cells_of_pv (rep_ev h o) hg.1
          obtain ⟨h1, h2⟩ := hc.overlay hcells hov
          obtain ⟨cs2, h3, h4⟩ := fill_rep parts c ls2 (cs.toList.take off ++ (a.eval o).cells.toList ++ cs.toList.drop (off + (a.eval o).cells.toList.length)).toArray h h1 hf
          refine ⟨cs2, ?_, h4⟩
          have hsz : (a.eval o).cells.size = size := by rw [← hg.2, ← hcells.1]; simp
          have h2' : off + (a.eval o).cells.size ≤ cs.size := by simpa using h2
          simp only [List.map_cons, Instr.fill, hp]
          rw [if_neg (by simp [hsz]; omega)]
          rw [← h3]
          congr 1
          exact fill_fold off _ cs h2'
        · cases hf
      · cases hf
    · cases hf

theorem ext_mset {id : Id} {n' : Nat} {e' : Ent} {v' : Value} (h : (m id).1 < n') : Ext m G (mset m id (n', e')) (updF G id v') := by
  intro id'
  by_cases hi : id' = id
  · subst hi
    rw [mset_same]
    exact .inr h
  · rw [mset_ne _ _ hi, updF_ne _ _ hi]
    exact .inl ⟨rfl, rfl, rfl⟩

theorem zeroT_spec {t : TypeId} {ls : List Leaf} (h : zeroT P t = some ls) : ∃ i z, P.info? t = some i ∧ i.zero = some z ∧ ls = z.cells.toList.map valueLeaf ∧ z.cells.toList.all (fun c => c.oneCell') = true := by
  unfold zeroT at h
  simp only [Option.bind_eq_some_iff] at h
  obtain ⟨z, ⟨i, h1, h2⟩, h3⟩ := h
  split at h3 <;> cases h3
  exact ⟨i, z, h1, h2, rfl, ‹_›⟩

theorem zlenT_spec {e : TypeId} (h : zlenT P e = true) : ∃ i z, P.info? e = some i ∧ i.zero = some z ∧ z.cells.size = i.size := by
  unfold zlenT at h
  split at h
  · rename_i ls hls
    obtain ⟨i, z, h1, h2, rfl, _⟩ := zeroT_spec hls
    refine ⟨i, z, h1, h2, ?_⟩
    simpa [Program.cellsOf, h1] using h
  · cases h

theorem cells_zero {cs : List Value} (h : cs.all (fun c => c.oneCell') = true) : Cells w K m G cs (cs.map valueLeaf) := by
  refine ⟨by simp, fun i x hx => ?_⟩
  rw [List.getElem?_map, Option.map_eq_some_iff] at hx
  obtain ⟨u, hu, rfl⟩ := hx
  have h1 := List.all_eq_true.1 h u (List.mem_of_getElem? hu)
  exact ⟨u, hu, h1, rep_valueLeaf h1⟩

theorem sound_new (h : Rel1 cx st a w K G B) {s : Sem Value} {T : TypeId} {cs : List Value} {ls : List Leaf} {d : Option Tmp} {r : PV × Mem}
    (hr : s.run P w = .ok (.pointer (some ⟨w.heap.size, 0, none⟩)) (w.alloc (.cells cs.toArray T))) (hc : Cells w K st.mem G cs ls) (he : effNew st.mem d ls = some r) : Sound P cx st a w (valS s) r := by
  unfold effNew at he
  split at he <;> cases he
  rename_i d
  have hext : Ext st.mem G (mset st.mem [d] ((st.mem [d]).1 + 1, .cell ls)) (updF G [d] (.pointer (some ⟨w.heap.size, 0, none⟩))) := ext_mset (by omega)
  have hg := World.grownBy_alloc w (.cells cs.toArray T) (B [d])
  have hsame : SameOn K w (w.alloc (.cells cs.toArray T)) := fun b hb => hg.block b (h.keptLt b hb) (fun e => (h.mine [d] b e.symm).1 hb)
  refine ⟨_, _, K, _, _, run_valS hr, h.upd [d] ((st.mem [d]).1 + 1) (.cell ls) (.pointer (some ⟨w.heap.size, 0, none⟩)) (some w.heap.size) hg (.inl (by omega)) ?_ ?_ ?_, .inl ⟨_, rfl, rfl, ?_⟩⟩
  · refine ⟨w.heap.size, cs.toArray, T, updF_same _ _ _, updF_same _ _ _, heap_alloc_new w _, by simpa using hc.1, fun i x hx => ?_⟩
    obtain ⟨u, h1, h2, h3⟩ := hc.2 i x hx
    exact ⟨u, by simpa using h1, h2, h3.mono (fun _ hb => hb) hsame hext⟩
  · intro b hb
    cases hb
    exact ⟨.inr (Nat.le_refl _), by simp⟩
  · intro _ h2
    exact absurd rfl (h2 ls)
  · show _ ≤ ((mset st.mem [d] _) [d]).1 ∧ ∃ b, _ ∧ (((mset st.mem [d] _) [d]).1 = _ → _)
    rw [mset_same]
    exact ⟨Nat.le_refl _, w.heap.size, rfl, fun _ => updF_same _ _ _⟩

theorem mapM_places (fs : List Field) (hf : ∀ f ∈ fs, (P.info? f.type).isSome = true) :
    (fs.mapM fun f => (P.info? f.type).map fun i => (f.offset, i.size)) = some (fs.map fun f => (f.offset, P.cellsOf f.type)) := by
  induction fs with
  | nil => simp
  | cons f fs ih =>
    have ih := ih (fun g hg => hf g (by simp [hg]))
    obtain ⟨i, hi⟩ := Option.isSome_iff_exists.1 (hf f (by simp))
    simp [List.mapM_cons, ih, hi, Program.cellsOf]

theorem fldT_of {t : TypeId} {fs : Array Field} (hu : P.underlying t = some (.struct fs)) (i : Nat) (o f : Nat) (h : fldT P t i = some (o, f)) :
    ((fs.toList.map fun f => (f.offset, P.cellsOf f.type)).toArray)[i]? = some (o, P.cellsOf f) := by
  obtain ⟨fs', fd, h1, h2, h3, h4, _⟩ := fldT_spec h
  rw [hu] at h1
  cases h1
  have : fs.toList[i]? = some fd := by rw [Array.getElem?_toList]; exact h2
  simp [h2, h3, h4]

theorem fillL_place {p p' : Nat → Option (Nat × Nat)} (hp : ∀ i x, p i = some x → p' i = some x) : ∀ (parts : List (Nat × PV)) (ls ls2 : List Leaf), fillL p ls parts = some ls2 → fillL p' ls parts = some ls2
  | [], ls, ls2, h => h
  | (i, v) :: parts, ls, ls2, h => by
    simp only [fillL] at h ⊢
    split at h
    · rename_i off size hi
      rw [hp i _ hi]
      simp only
      split at h
      · rename_i hg
        rw [if_pos hg]
        split at h
        · rename_i c hc
          exact fillL_place hp parts c ls2 h
        · cases h
      · cases h
    · cases h

theorem sound_build (h : Rel1 cx st a w K G B) {t : TypeId} {parts : Array (Nat × Operand)} {r : PV × Mem}
    (he : effBuild P st.mem t (parts.toList.map fun p => (p.1, st.ev p.2)) = some r) : Sound P cx st a w (valS (Instr.build t (parts.map fun p => (p.1, a.eval p.2)))) r := by
  unfold effBuild at he
  split at he
  · rename_i hst
    split at he
    · rename_i zs hzs
      simp only [Option.map_eq_some_iff] at he
      obtain ⟨ls, hls, rfl⟩ := he
      obtain ⟨i, z, hi, hz1, rfl, hall⟩ := zeroT_spec hzs
      unfold structT at hst
      split at hst
      · rename_i fs hu
        have hc0 := cells_zero (w := w) (K := K) (m := st.mem) (G := G) hall
        have hls' := fillL_place (p' := fun i => ((fs.toList.map fun f => (f.offset, P.cellsOf f.type)).toArray)[i]?) (fun i x hx => by
          cases hf : fldT P t i with
          | none => rw [hf] at hx; cases hx
          | some y =>
            obtain ⟨o, f⟩ := y
            rw [hf] at hx
            cases hx
            exact fldT_of hu i o f hf) _ _ _ hls
        obtain ⟨cs2, h1, h2⟩ := fill_rep parts.toList _ ls z.cells h hc0 hls'
        refine sound_val h (v := .agg cs2) ?_ ⟨cs2, rfl, by simpa using h2.1, fun i x hx => by
          obtain ⟨u, k1, k2⟩ := h2.2 i x hx
          exact ⟨u, by simpa using k1, k2⟩⟩
        have hall' : ∀ f ∈ fs.toList, (P.info? f.type).isSome = true := by
          intro f hf
          rw [Array.all_eq_true'] at hst
          exact hst f (Array.mem_toList_iff.1 hf)
        refine run_build w t _ cs2 ?_
        unfold Program.built
        simp only [hi, hu, hz1, mapM_places fs.toList hall', Array.toList_map]
        exact h1
      · cases hst
    · cases he
  · cases he


theorem cells_data {ds : List D} {vs : List Value} (hl : vs.length = ds.length) (h : ∀ (i : Nat) d, ds[i]? = some d → ∃ u, vs[i]? = some u ∧ Rep w K d u) : ∀ u ∈ vs, u.oneCell' = true := by
  intro u hu
  obtain ⟨i, hi, rfl⟩ := List.getElem_of_mem hu
  obtain ⟨u', h1, h2⟩ := h i ds[i] (List.getElem?_eq_getElem (by omega))
  rw [List.getElem?_eq_getElem hi] at h1
  cases h1
  exact h2.oneCell

theorem cellAt_chunks {z n : Nat} {ds : List D} {i j : Nat} {d : D} (h : cellAt (chunks z n ds) i j = some d) : ds[i * z + j]? = some d := by
  unfold cellAt chunks at h
  rw [List.getElem?_map] at h
  cases hr : (List.range n)[i]? with
  | none => rw [hr] at h; cases h
  | some k =>
    have hk : k = i := by
      have := List.getElem?_eq_some_iff.1 hr
      obtain ⟨h1, h2⟩ := this
      simp at h2
      exact h2.symm
    rw [hr] at h
    simp only [Option.map_some, Option.bind_some, List.getElem?_take, List.getElem?_drop] at h
    split at h
    · rw [hk] at h; exact h
    · cases h

theorem len_chunks {z n : Nat} {ds : List D} (hl : ds.length = n * z) : ∀ xs ∈ chunks z n ds, xs.length = z := by
  intro xs hx
  unfold chunks at hx
  rw [List.mem_map] at hx
  obtain ⟨i, hi, rfl⟩ := hx
  rw [List.mem_range] at hi
  rw [List.length_take, List.length_drop, hl]
  have : (i + 1) * z ≤ n * z := Nat.mul_le_mul_right z (by omega)
  rw [Nat.add_mul] at this
  omega

/-- A row that is made now. -/
theorem sound_row (h : Rel1 cx st a w K G B) {s : Sem Value} {e z n c : Nat} {cs : List Value} {xss : List (List D)} {d : Tmp}
    (hr : s.run P w = .ok (.slice (some ⟨w.heap.size, 0, none⟩) xss.length c) (w.alloc (.cells cs.toArray e))) (hc : xss.length ≤ c) (hm : c ≤ maxLen) (hsz : cs.length = c * z)
    (hz : ∀ xs ∈ xss, xs.length = z) (hcell : ∀ i j x, cellAt xss i j = some x → ∃ u, cs[i * z + j]? = some u ∧ Rep w K x u) (hone : ∀ u ∈ cs, u.oneCell' = true) :
    Sound P cx st a w (valS s) (.l (.own [d] ((st.mem [d]).1 + 1)), mset st.mem [d] ((st.mem [d]).1 + 1, .row e z xss)) := by
  have hg := World.grownBy_alloc w (.cells cs.toArray e) (B [d])
  have hsame : SameOn K w (w.alloc (.cells cs.toArray e)) := fun b hb => hg.block b (h.keptLt b hb) (fun e => (h.mine [d] b e.symm).1 hb)
  have hle : xss.length * z ≤ cs.length := by rw [hsz]; exact Nat.mul_le_mul_right z hc
  refine ⟨_, _, K, _, _, run_valS hr, h.upd [d] ((st.mem [d]).1 + 1) (.row e z xss) (.slice (some ⟨w.heap.size, 0, none⟩) xss.length c) (some w.heap.size) hg (.inl (by omega)) ?_ ?_ ?_, .inl ⟨_, rfl, rfl, ?_⟩⟩
  · refine ⟨⟨cs.take (xss.length * z), ?_, ⟨hz, fun i j x hx => ?_⟩, fun u hu => hone u (List.mem_of_mem_take hu)⟩, ?_⟩
    · rw [updF_same]
      exact ⟨by rw [List.length_take]; omega, .inr ⟨w.heap.size, c, cs.toArray, rfl, Nat.zero_le _, heap_alloc_new w _, hc, hm, by simpa using hsz, rfl⟩⟩
    · obtain ⟨u, h1, h2⟩ := hcell i j x hx
      refine ⟨u, ?_, h2.mono (fun _ hb => hb) hsame⟩
      have hi : i < xss.length ∧ j < z := by
        unfold cellAt at hx
        cases hxi : xss[i]? with
        | none => rw [hxi] at hx; cases hx
        | some ys =>
          rw [hxi] at hx
          have h3 := (List.getElem?_eq_some_iff.1 hxi).1
          have h4 := (List.getElem?_eq_some_iff.1 (show ys[j]? = some x from hx)).1
          rw [hz ys (List.mem_of_getElem? hxi)] at h4
          exact ⟨h3, h4⟩
      rw [List.getElem?_take, if_pos ?_]
      · exact h1
      · have : (i + 1) * z ≤ xss.length * z := Nat.mul_le_mul_right z (by omega)
        rw [Nat.add_mul] at this
        omega
    · rw [updF_same, updF_same]; rfl
  · intro b hb
    cases hb
    exact ⟨.inr (Nat.le_refl _), by simp⟩
  · intro h1 _
    exact absurd rfl (h1 e z xss)
  · show _ ≤ ((mset st.mem [d] _) [d]).1 ∧ (((mset st.mem [d] _) [d]).1 = _ → _)
    rw [mset_same]
    exact ⟨Nat.le_refl _, fun _ => (updF_same _ _ _).symm⟩

theorem sound_asDs_cells {xs : List Leaf} {vs : List Value} {ds : List D} {m1 : Mem} (h : Rel1 cx st a w K G B) (hc : Cells w K st.mem G vs xs) (hd : asDs st.mem xs = some (ds, m1)) :
    ∃ K' B', Rel1 cx { st with mem := m1 } a w K' G B' ∧ (∀ b, K b → K' b) ∧ ds.length = xs.length ∧ (∀ (i : Nat) d, ds[i]? = some d → ∃ u, vs[i]? = some u ∧ Rep w K' d u) ∧ Ext st.mem G m1 G :=
  sound_asDs xs h hc.1 hc.2 hd

theorem Sound.of_mem {s : Sem Next} {r : PV × Mem} {m1 : Mem} (h : Sound P cx { st with mem := m1 } a w s r) : Sound P cx st a w s r := h

theorem flat_rep {α : Type} (l : List α) : ∀ (n i j : Nat), i < n → j < l.length → ((List.replicate n l).flatten)[i * l.length + j]? = l[j]?
  | 0, i, j, h, _ => by omega
  | n + 1, 0, j, _, hj => by
    rw [List.replicate_succ, List.flatten_cons, Nat.zero_mul, Nat.zero_add, List.getElem?_append_left hj]
  | n + 1, i + 1, j, h, hj => by
    rw [List.replicate_succ, List.flatten_cons, List.getElem?_append_right (by rw [Nat.add_mul]; omega)]
    have := flat_rep l n i j (by omega) hj
    rw [show (i + 1) * l.length + j - l.length = i * l.length + j by rw [Nat.add_mul]; omega]
    exact this

theorem flat_len {α : Type} (l : List α) (n : Nat) : ((List.replicate n l).flatten).length = n * l.length := by
  simp

theorem zero_range (z : Array Value) (n : Nat) (hz : 0 < z.size) : ((Array.range (n * z.size)).map fun i => z[i % z.size]!).toList = (List.replicate n z.toList).flatten := by
  apply List.ext_getElem?
  intro k
  by_cases hk : k < n * z.size
  · have h1 : k = (k / z.size) * z.toList.length + k % z.size := by
      have := Nat.div_add_mod k z.size
      rw [Nat.mul_comm] at this
      simpa using this.symm
    have h2 : k % z.size < z.size := Nat.mod_lt _ hz
    have h3 : k / z.size < n := Nat.div_lt_of_lt_mul (by rw [Nat.mul_comm]; exact hk)
    have h4 := flat_rep z.toList n (k / z.size) (k % z.size) h3 (by simpa using h2)
    rw [← h1] at h4
    rw [h4]
    simp [hk, h2]
  · rw [List.getElem?_eq_none (by simp; omega), List.getElem?_eq_none (by rw [flat_len]; simp; omega)]

theorem overlay_len {α : Type} {xs ys zs : List α} {off : Nat} (h : overlay xs off ys = some zs) : zs.length = xs.length := by
  unfold overlay at h
  split at h <;> cases h
  simp
  omega

theorem fillL_len {place : Nat → Option (Nat × Nat)} : ∀ (parts : List (Nat × PV)) (ls ls2 : List Leaf), fillL place ls parts = some ls2 → ls2.length = ls.length
  | [], ls, ls2, h => by simp [fillL] at h; rw [h]
  | (i, v) :: parts, ls, ls2, h => by
    simp only [fillL] at h
    split at h
    · split at h
      · split at h
        · rename_i c hc
          rw [fillL_len parts c ls2 h, overlay_len hc]
        · cases h
      · cases h
    · cases h

theorem sound_buildSlice (h : Rel1 cx st a w K G B) {t : TypeId} {d : Option Tmp} {len : Nat} {parts : Array (Nat × Operand)} {r : PV × Mem}
    (he : effBuildSlice P st.mem d t len (parts.toList.map fun p => (p.1, st.ev p.2)) = some r) : Sound P cx st a w (valS (Instr.buildSlice t len (parts.map fun p => (p.1, a.eval p.2)))) r := by
  unfold effBuildSlice at he
  split at he
  · rename_i d e hel
    split at he
    · rename_i zs hzs
      split at he
      · rename_i hcond
        obtain ⟨hc1, hc2, hc3⟩ := hcond
        split at he
        · rename_i ls hls
          split at he <;> cases he
          rename_i ds m1 hds
          obtain ⟨hu, hinf⟩ := elT_both hel
          obtain ⟨ie, z, hie, hz1, rfl, hall⟩ := zeroT_spec hzs
          have hce : P.cellsOf e = ie.size := by simp [Program.cellsOf, hie]
          have hzsz : z.cells.size = ie.size := by simpa [hce] using hc2
          have hc0 : Cells w K st.mem G ((List.replicate len z.cells.toList).flatten) ((List.replicate len (z.cells.toList.map valueLeaf)).flatten) := by
            have := cells_zero (w := w) (K := K) (m := st.mem) (G := G) (cs := (List.replicate len z.cells.toList).flatten) (by
              rw [List.all_eq_true]
              intro u hu
              simp only [List.mem_flatten, List.mem_replicate] at hu
              obtain ⟨l, ⟨_, rfl⟩, hu⟩ := hu
              exact List.all_eq_true.1 hall u hu)
            rw [List.map_flatten, List.map_replicate] at this
            exact this
          have hzr := zero_range z.cells len (by omega)
          rw [← hzr] at hc0
          obtain ⟨cs2, h1, h2⟩ := fill_rep parts.toList _ ls ((Array.range (len * z.cells.size)).map fun i => z.cells[i % z.cells.size]!) h hc0 hls
          obtain ⟨K', B', hR, hK, hdl, hdr, hext⟩ := sound_asDs_cells h h2 hds
          have hlsl : ls.length = len * P.cellsOf e := by
            rw [fillL_len _ _ _ hls, flat_len, hc2]
          have hmax : len ≤ 16777216 := Nat.le_trans (Nat.le_mul_of_pos_right _ hc3) hc1
          have hrun : (Instr.buildSlice t len (parts.map fun p => (p.1, a.eval p.2))).run P w = .ok (.slice (some ⟨w.heap.size, 0, none⟩) (chunks (P.cellsOf e) len ds).length len) (w.alloc (.cells cs2.toList.toArray e)) := by
            have hl : (chunks (P.cellsOf e) len ds).length = len := by simp [chunks]
            rw [hl]
            by_cases hlen : len = 0
            · subst hlen
              simp only [Nat.zero_mul, Array.range_zero', Array.map_empty] at h1
              have h1' := h1
              rw [hce] at h1'
              have h0 : Array.map (fun _ => (default : Value)) (Array.range 0) = #[] := by simp
              simp [Instr.buildSlice, run_underlying hu, sizeOf, typeInfo, hie, newRow]
              rw [h0, h1']
              simp
            · have := run_buildSlice w t e len (parts.map fun p => (p.1, a.eval p.2)) cs2 ie z hu hie hz1 (by rw [hce] at hc1; omega) (by rw [← hce]; exact Nat.ne_of_gt (Nat.mul_pos (by omega) hc3)) (by
                rw [← hce] at hzsz
                rw [← hce, ← hzsz] 
                rw [Array.toList_map]
                rw [← hzsz] at h1
                exact h1)
              simpa using this
          exact Sound.of_mem (m1 := m1) (sound_row (st := { st with mem := m1 }) (n := len) (c := len) (cs := cs2.toList) hR hrun (by simp [chunks]) (by unfold maxLen; omega) (by rw [h2.1, hlsl]) (len_chunks (by omega)) (fun i j x hx => hdr _ x (cellAt_chunks hx)) (cells_data (by rw [h2.1, hdl]) hdr))
        · cases he
      · cases he
    · cases he
  · cases he


theorem cellAt_replicate {n i j : Nat} {ds : List D} {d : D} (h : cellAt (List.replicate n ds) i j = some d) : i < n ∧ ds[j]? = some d := by
  unfold cellAt at h
  rw [List.getElem?_replicate] at h
  split at h
  · exact ⟨‹_›, h⟩
  · cases h

theorem sound_makeSlice (h : Rel1 cx st a w K G B) {t : TypeId} {d : Option Tmp} {l c : PV} {vl vc : Value} {r : PV × Mem} (hl : RepPV w K st.mem G l vl) (hc : RepPV w K st.mem G c vc)
    (he : effMakeSlice P st.mem d t l c = some r) : Sound P cx st a w (valS (Instr.makeSlice t vl vc)) r := by
  unfold effMakeSlice at he
  split at he
  · rename_i d e l c hel
    obtain rfl := rep_int hl
    obtain rfl := rep_int hc
    split at he
    · rename_i zs hzs
      split at he
      · rename_i ds m1 hds
        split at he <;> cases he
        rename_i hcond
        obtain ⟨h0, h1, h2, h3, h4, h5⟩ := hcond
        obtain ⟨hu, hinf⟩ := elT_both hel
        obtain ⟨ie, z, hie, hz1, rfl, hall⟩ := zeroT_spec hzs
        have hce : P.cellsOf e = ie.size := by simp [Program.cellsOf, hie]
        have hbe : P.bytesOf e = ie.bytes := by simp [Program.bytesOf, hie]
        have hzsz : z.cells.size = ie.size := by simpa [hce] using h4
        obtain ⟨K', B', hR, hK, hdl, hdr, hext⟩ := sound_asDs_cells h (cells_zero (w := w) (K := K) (m := st.mem) (G := G) hall) hds
        simp only [List.length_map] at hdl
        rw [hbe] at h3
        have hb : (ie.bytes : Int) * c ≤ 281474976710656 := by rw [Int.mul_comm]; omega
        have hrun := run_make (P := P) w t e ie z hu hie hz1 .i64 .i64 l c h0 h1 hb (by unfold maxLen at h2; omega)
        have hmc : madeCells z.cells (c.toNat * ie.size) = ((List.replicate c.toNat z.cells.toList).flatten).toArray := by
          rw [← hzsz]
          have := zero_range z.cells c.toNat (by omega)
          rw [← this]
          rfl
        rw [hmc] at hrun
        have hzl : z.cells.toList.length = P.cellsOf e := by simpa using h4
        refine Sound.of_mem (m1 := m1) (sound_row (st := { st with mem := m1 }) (n := 0) (c := c.toNat) (cs := (List.replicate c.toNat z.cells.toList).flatten) hR (by simpa using hrun) (by simp; omega) (by omega) (by rw [flat_len, hzl]) (fun xs hxs => ?_) (fun i j x hx => ?_) (fun u hu => ?_))
        · rw [(List.mem_replicate.1 hxs).2, hdl, hzl]
        · obtain ⟨k1, k2⟩ := cellAt_replicate hx
          obtain ⟨u, k3, k4⟩ := hdr j x k2
          have hj : j < z.cells.toList.length := (List.getElem?_eq_some_iff.1 k3).1
          have := flat_rep z.cells.toList c.toNat i j (by omega) hj
          rw [hzl] at this
          exact ⟨u, this.trans k3, k4⟩
        · simp only [List.mem_flatten, List.mem_replicate] at hu
          obtain ⟨l, ⟨_, rfl⟩, hu⟩ := hu
          exact List.all_eq_true.1 hall u hu
      · cases he
    · cases he
  · cases he

def RowNews (w : World) (K : Nat → Prop) (z : Nat) (yss : List (List D)) (v : Value) : Prop :=
  ∃ (b off c : Nat) (news : List Value), v = .slice (some ⟨b, off, none⟩) yss.length c ∧ news.length = yss.length * z ∧ (∀ (j : Nat) (u : Value), news[j]? = some u → w.cell? ⟨b, off + j, none⟩ = some u) ∧ (∀ u ∈ news, u.oneCell' = true) ∧
    ∀ i j d, cellAt yss i j = some d → ∃ u, news[i * z + j]? = some u ∧ Rep w K d u

/-- What a slice holds, cell by cell, where it lies. -/
theorem elems_cells (h : Rel1 cx st a w K G B) {x : Leaf} {vx : Value} {yss : List (List D)} {z : Nat} (hx : RepPV w K st.mem G (.l x) vx) (he : elems st.mem x = some yss) (hz : ∀ ys ∈ yss, ys.length = z) (hne : yss ≠ []) :
    RowNews w K z yss vx := by
  have hpos : 0 < yss.length := by cases yss <;> simp_all
  have hzpos : ∀ {i j : Nat} {d : D}, cellAt yss i j = some d → i < yss.length ∧ j < z := by
    intro i j d hd
    unfold cellAt at hd
    cases hxi : yss[i]? with
    | none => rw [hxi] at hd; cases hd
    | some ys =>
      rw [hxi] at hd
      have h3 := (List.getElem?_eq_some_iff.1 hxi).1
      have h4 := (List.getElem?_eq_some_iff.1 (show ys[j]? = some d from hd)).1
      rw [hz ys (List.mem_of_getElem? hxi)] at h4
      exact ⟨h3, h4⟩
  have ofRep : ∀ {v : Value}, Rep w K (.sl yss) v → RowNews w K z yss v := by
    intro v hv
    cases hv with
    | nil => simp at hpos
    | @sl z' b off c _ vs hb hc hm hz' hcell hr =>
      have hzz : z' = z := by
        obtain ⟨ys, hys⟩ : ∃ ys, ys ∈ yss := ⟨yss[0], List.getElem_mem hpos⟩
        exact (hz' ys hys).symm.trans (hz ys hys)
      subst hzz
      obtain ⟨news, hnl, hn⟩ := choose_idx (fun k u => w.cell? ⟨b, off + k, none⟩ = some u ∧ u.oneCell' = true ∧ ∀ i j d, k = i * z' + j → cellAt yss i j = some d → Rep w K d u) (yss.length * z') (fun k hk => by
        have hz0 : 0 < z' := by
          apply Classical.byContradiction
          intro h0
          have : z' = 0 := by omega
          subst this
          simp at hk
        have hq : k / z' < yss.length := Nat.div_lt_of_lt_mul (by rw [Nat.mul_comm]; exact hk)
        have hr2 : k % z' < z' := Nat.mod_lt _ hz0
        have hys := hz' (yss[k / z']) (List.getElem_mem hq)
        have hca : cellAt yss (k / z') (k % z') = some ((yss[k / z'])[k % z']'(by omega)) := by
          unfold cellAt
          rw [List.getElem?_eq_getElem hq]
          exact List.getElem?_eq_getElem (by omega)
        have hk2 : k = k / z' * z' + k % z' := by
          have := Nat.div_add_mod k z'
          rw [Nat.mul_comm] at this
          omega
        refine ⟨vs (k / z') (k % z'), ?_, (hr _ _ _ hca).oneCell, fun i j d hij hd => ?_⟩
        · have := hcell _ _ _ hca
          rw [Nat.add_assoc, ← hk2] at this
          exact this
        · obtain ⟨_, hj⟩ := hzpos hd
          have hi : k / z' = i := by rw [hij, Nat.mul_comm, Nat.mul_add_div hz0, Nat.div_eq_of_lt hj]; omega
          have hj' : k % z' = j := by rw [hij, Nat.mul_comm, Nat.mul_add_mod, Nat.mod_eq_of_lt hj]
          rw [hi, hj'] 
          exact hr i j d hd)
      refine ⟨b, off, c, news, rfl, hnl, fun j u hu => (hn j u hu).1, fun u hu => ?_, fun i j d hd => ?_⟩
      · obtain ⟨k, hk, rfl⟩ := List.getElem_of_mem hu
        exact (hn k _ (List.getElem?_eq_getElem hk)).2.1
      · obtain ⟨hi, hj⟩ := hzpos hd
        have hlt : i * z' + j < news.length := by
          rw [hnl]
          have : (i + 1) * z' ≤ yss.length * z' := Nat.mul_le_mul_right z' (by omega)
          rw [Nat.add_mul] at this
          omega
        exact ⟨news[i * z' + j], List.getElem?_eq_getElem hlt, (hn _ _ (List.getElem?_eq_getElem hlt)).2.2 i j d rfl hd⟩
  have ofRow : ∀ {v : Value} {e z' : Nat}, OwnRow w K e z' yss v → RowNews w K z yss v := by
    intro v e z' hv
    obtain ⟨flat, hown, ⟨hz', hf⟩, h1⟩ := hv
    have hzz : z' = z := by
      obtain ⟨ys, hys⟩ : ∃ ys, ys ∈ yss := ⟨yss[0], List.getElem_mem hpos⟩
      exact (hz' ys hys).symm.trans (hz ys hys)
    subst hzz
    obtain ⟨g, cap, rfl, _, _⟩ := hown.form hpos
    refine ⟨g, 0, cap, flat, rfl, hown.1, fun j u hu => ?_, h1, hf⟩
    have := hown.cells (g := g) rfl j u hu
    rwa [Addr.add_lit] at this
  unfold elems at he
  split at he
  · cases he
    exact ofRep hx.2
  · cases he
    exact absurd rfl hne
  · rename_i r n
    obtain ⟨hle, hag⟩ := hx.2
    have hE := h.ents r
    split at he
    · rename_i n' e z ys hm
      split at he <;> cases he
      rename_i hn
      rw [hm] at hE
      obtain rfl := hag (by rw [hm]; exact hn)
      exact ofRow hE.1
    · rename_i n' z ys hm
      split at he <;> cases he
      rename_i hn
      rw [hm] at hE
      obtain rfl := hag (by rw [hm]; exact hn)
      exact ofRep hE.1
    · cases he
  · cases he


theorem cellAt_append {xss yss : List (List D)} {i j : Nat} {d : D} (h : cellAt (xss ++ yss) i j = some d) : (i < xss.length ∧ cellAt xss i j = some d) ∨ (xss.length ≤ i ∧ cellAt yss (i - xss.length) j = some d) := by
  unfold cellAt at *
  by_cases hi : i < xss.length
  · rw [List.getElem?_append_left hi] at h
    exact .inl ⟨hi, h⟩
  · rw [List.getElem?_append_right (by omega)] at h
    exact .inr ⟨by omega, h⟩

theorem cellAt_lt {xss : List (List D)} {z i j : Nat} {d : D} (hz : ∀ xs ∈ xss, xs.length = z) (h : cellAt xss i j = some d) : i < xss.length ∧ j < z := by
  unfold cellAt at h
  cases hxi : xss[i]? with
  | none => rw [hxi] at h; cases h
  | some ys =>
    rw [hxi] at h
    have h3 := (List.getElem?_eq_some_iff.1 hxi).1
    have h4 := (List.getElem?_eq_some_iff.1 (show ys[j]? = some d from h)).1
    rw [hz ys (List.mem_of_getElem? hxi)] at h4
    exact ⟨h3, h4⟩

theorem FlatRep.append {z : Nat} {flat news : List Value} {xss yss : List (List D)} (h : FlatRep w K z flat xss) (hl : flat.length = xss.length * z) (hz : ∀ ys ∈ yss, ys.length = z)
    (hn : ∀ i j d, cellAt yss i j = some d → ∃ u, news[i * z + j]? = some u ∧ Rep w K d u) : FlatRep w K z (flat ++ news) (xss ++ yss) := by
  refine ⟨fun xs hx => ?_, fun i j d hd => ?_⟩
  · rcases List.mem_append.1 hx with hx | hx
    · exact h.1 xs hx
    · exact hz xs hx
  · rcases cellAt_append hd with ⟨hi, hd⟩ | ⟨hi, hd⟩
    · obtain ⟨_, hj⟩ := cellAt_lt h.1 hd
      obtain ⟨u, h1, h2⟩ := h.2 i j d hd
      refine ⟨u, ?_, h2⟩
      rw [List.getElem?_append_left]
      · exact h1
      · rw [hl]
        have : (i + 1) * z ≤ xss.length * z := Nat.mul_le_mul_right z (by omega)
        rw [Nat.add_mul] at this
        omega
    · obtain ⟨u, h1, h2⟩ := hn _ _ _ hd
      refine ⟨u, ?_, h2⟩
      have e : i * z = xss.length * z + (i - xss.length) * z := by rw [← Nat.add_mul]; congr 1; omega
      rw [List.getElem?_append_right (by rw [hl, e]; omega), hl, e, show xss.length * z + (i - xss.length) * z + j - xss.length * z = (i - xss.length) * z + j by omega]
      exact h1

/-- append onto nil, or onto a row of one's own. -/
theorem sound_grow (h : Rel1 cx st a w K G B) {s : Sem Value} {e z : Nat} {xss yss : List (List D)} {news : List Value} {v v' : Value} {id : Id} {n' : Nat} {flat : List Value} (hn' : (st.mem id).1 < n')
    (hr : s.run P w = .ok v' w') (hown : w'.ownsRow 0 e z v' (xss.length + yss.length) (flat ++ news)) (hg : w.grownBy w' v.ownBlock) (hat : v'.ownBlock = v.ownBlock ∨ v'.ownBlock = some w.heap.size)
    (hv : v.ownBlock = none ∨ B id = v.ownBlock) (hf : FlatRep w K z flat xss) (hfl : flat.length = xss.length * z) (h1 : ∀ u ∈ flat, u.oneCell' = true) (h2 : ∀ u ∈ news, u.oneCell' = true)
    (hz : ∀ ys ∈ yss, ys.length = z) (hn : ∀ i j d, cellAt yss i j = some d → ∃ u, news[i * z + j]? = some u ∧ Rep w K d u) :
    Sound P cx st a w (valS s) (.l (.own id n'), mset st.mem id (n', .row e z (xss ++ yss))) := by
  have hone : v'.oneCell' = true := by
    rcases hown.2 with ⟨rfl, _⟩ | ⟨g, cap, cur, rfl, _⟩ <;> rfl
  have hgB : w.grownBy w' (B id) := by
    rcases hv with hv | hv
    · rw [hv] at hg
      exact ⟨hg.os, hg.tape, hg.output, hg.size, fun k hk _ => hg.block k hk (by simp)⟩
    · rw [hv]; exact hg
  have hsame : SameOn K w w' := fun b hb => hgB.block b (h.keptLt b hb) (fun e => (h.mine id b e.symm).1 hb)
  refine ⟨_, w', K, _, _, run_valS hr, h.upd id n' (.row e z (xss ++ yss)) v' v'.ownBlock hgB (.inl hn') ?_ ?_ ?_, .inl ⟨_, rfl, hone, ?_⟩⟩
  · refine ⟨⟨flat ++ news, ?_, (FlatRep.append hf hfl hz hn).mono (fun _ hb => hb) hsame, fun u hu => ?_⟩, by rw [updF_same, updF_same]⟩
    · rw [updF_same, List.length_append]
      exact hown
    · rcases List.mem_append.1 hu with hu | hu
      · exact h1 u hu
      · exact h2 u hu
  · intro b hb
    refine ⟨?_, ?_⟩
    · rcases hat with hat | hat
      · rcases hv with hv | hv
        · rw [hat, hv] at hb; cases hb
        · left; rw [hv, ← hat]; exact hb
      · rw [hat] at hb
        cases hb
        exact .inr (Nat.le_refl _)
    · exact (hown.lt b hb).2
  · intro h1 _
    exact absurd rfl (h1 e z (xss ++ yss))
  · show _ ≤ ((mset st.mem id _) id).1 ∧ (((mset st.mem id _) id).1 = _ → _)
    rw [mset_same]
    exact ⟨Nat.le_refl _, fun _ => (updF_same _ _ _).symm⟩

theorem run_append_none {t ty e : TypeId} (ht : P.underlying t = some (.slice e)) (hi : (P.info? e).isSome = true) (ba : Option Addr) (n c : Nat) (hc : n ≤ c) (c' : Nat) (A' : Option Addr) (hA : A' = none ∨ True) :
    (Builtin.append_ #[t, t] ty #[.slice ba n c, .slice none 0 c']).run P w = .ok (.slice ba n c) w := by
  cases ba <;> simp [Builtin.append_, Sem.run_bind, run_underlying ht, run_size' hi, Builtin.lenOf, hc, Builtin.firstCells, storeCells]

theorem run_append_zero {t ty e : TypeId} (ht : P.underlying t = some (.slice e)) (hi : (P.info? e).isSome = true) (ba : Option Addr) (n c : Nat) (hc : n ≤ c) (c' : Nat) (A' : Addr) :
    (Builtin.append_ #[t, t] ty #[.slice ba n c, .slice (some A') 0 c']).run P w = .ok (.slice ba n c) w := by
  cases ba <;> simp [Builtin.append_, Sem.run_bind, run_underlying ht, run_size' hi, Builtin.lenOf, hc, Builtin.firstCells, storeCells, loadCells, loadCellsFrom]

theorem sound_append (h : Rel1 cx st a w K G B) {t t' ty : TypeId} {d : Option Tmp} {s x : PV} {vs vx : Value} {r : PV × Mem} (hs : RepPV w K st.mem G s vs) (hx : RepPV w K st.mem G x vx)
    (he : effAppend P st.mem d t t' s x = some r) : Sound P cx st a w (valS (Builtin.append_ #[t, t'] ty #[vs, vx])) r := by
  unfold effAppend at he
  split at he
  · rename_i e d hel
    split at he
    · rename_i hcond
      obtain ⟨rfl, hpos, hzl⟩ := hcond
      split at he
      · rename_i s x
        split at he
        · rename_i yss hyss
          split at he
          · rename_i hall
            obtain ⟨hu, hinf⟩ := elT_both hel
            obtain ⟨ie, z0, hie, hz1, hz2⟩ := zlenT_spec hzl
            have hce : P.cellsOf e = ie.size := by simp [Program.cellsOf, hie]
            have hbe : P.bytesOf e = ie.bytes := by simp [Program.bytesOf, hie]
            have hz : ∀ ys ∈ yss, ys.length = P.cellsOf e := fun ys hys => by simpa using List.all_eq_true.1 hall ys hys
            obtain ⟨A, c, hvx, _, _⟩ := elems_len h hx hyss
            -- one road for both bases
            have road : ∀ {xss : List (List D)} {flat : List Value} {v : Value} {id : Id} {n' : Nat}, vs = v → (st.mem id).1 < n' → w.ownsRow 0 e (P.cellsOf e) v xss.length flat → FlatRep w K (P.cellsOf e) flat xss → (∀ u ∈ flat, u.oneCell' = true) →
                (v.ownBlock = none ∨ B id = v.ownBlock) → (xss.length + yss.length) * P.bytesOf e ≤ 140737488355328 → xss.length + yss.length ≤ maxLen →
                Sound P cx st a w (valS (Builtin.append_ #[t, t] ty #[vs, vx])) (.l (.own id n'), mset st.mem id (n', .row e (P.cellsOf e) (xss ++ yss))) := by
              intro xss flat v id n' hvs hn' hown hf h1 hv hb hm
              subst hvs
              by_cases hne : yss = []
              · subst hne
                have hgr : w.grownBy w vs.ownBlock := ⟨rfl, rfl, rfl, Nat.le_refl _, fun _ _ _ => rfl⟩
                obtain ⟨ba, n, cc, hba, hnn, hnc⟩ : ∃ ba n cc, vs = .slice ba n cc ∧ n = xss.length ∧ n ≤ cc := by
                  rcases hown.2 with ⟨h1, h0⟩ | ⟨g, cap, cur, h1, _, _, h2, _⟩
                  · exact ⟨none, 0, 0, h1, h0.symm, Nat.le_refl _⟩
                  · exact ⟨_, _, _, h1, rfl, h2⟩
                have hrun : (Builtin.append_ #[t, t] ty #[vs, vx]).run P w = .ok vs w := by
                  rw [hba, hvx]
                  cases A with
                  | none => exact run_append_none hu hinf ba n cc hnc c none (.inl rfl)
                  | some A => exact run_append_zero hu hinf ba n cc hnc c A
                refine sound_grow (flat := flat) (news := []) h hn' hrun ?_ hgr (.inl rfl) hv hf hown.1 h1 (by simp) (by simp) (fun i j d hd => ?_)
                · rw [List.append_nil]
                  exact hown
                · simp [cellAt] at hd
              · obtain ⟨b, off, c, news, hvx', hnl, hnews, hn1, hn⟩ := elems_cells h hx hyss hz hne
                subst hvx'
                obtain ⟨v', w', hr, k1, k2, k3, k4⟩ := run_append_own_at (P := P) w 0 t ty e ie z0 (P.cellsOf e) (P.bytesOf e) hu hie hz1 hce.symm hbe.symm (by rw [hz2, hce]) hpos vs xss.length flat hown ⟨b, off, none⟩ yss.length c news hnl (fun j u hj => by rw [Addr.add_lit]; exact hnews j u hj) hn1 hm hb (Nat.zero_le _)
                exact sound_grow (flat := flat) (news := news) h hn' hr k1 k2 k4 hv hf hown.1 h1 hn1 hz hn
            split at he
            · split at he <;> cases he
              rename_i hlim
              have hsv := hs.2
              have := road (xss := []) (flat := []) (v := vs) (id := [d]) (n' := (st.mem [d]).1 + 1) rfl (by omega) (by rw [hsv]; exact World.ownsRow_nil w 0 e _) ⟨by simp, fun i j d hd => by simp [cellAt] at hd⟩ (by simp) (.inl (by rw [hsv]; rfl)) (by simpa using hlim.1) (by simpa using hlim.2)
              simpa using this
            · rename_i rr nn
              obtain ⟨hle, hag⟩ := hs.2
              split at he
              · rename_i n2 e' z' xss hm
                split at he <;> cases he
                rename_i hlim
                obtain ⟨rfl, rfl, rfl, hl1, hl2⟩ := hlim
                have hE := h.ents rr
                rw [hm] at hE
                obtain ⟨⟨flat, k1, k2, k3⟩, k4⟩ := hE
                have hv := hag (by rw [hm])
                exact road (v := vs) rfl (by rw [hm]; exact Nat.lt_succ_self _) (by rw [hv]; exact k1) k2 k3 (.inr (by rw [hv]; exact k4)) hl1 hl2
              · cases he
            · cases he
          · cases he
        · cases he
      · cases he
    · cases he
  · cases he

end Go.Proofs.Ytfnplmglpbihhaa.Vm
