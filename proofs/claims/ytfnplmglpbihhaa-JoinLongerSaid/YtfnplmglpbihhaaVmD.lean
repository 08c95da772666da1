/- Soundness of the operations that read. -/
import Derived.Test.YtfnplmglpbihhaaVmC
namespace Go.Proofs.Ytfnplmglpbihhaa.Vm
open Go Go.RowKit
set_option linter.unusedVariables false
set_option linter.unusedSimpArgs false

variable {P : Program} {cx : Cx} {st : St} {a : Act} {w w' : World} {K K' : Nat → Prop} {G G' : Id → Value} {B B' : Id → Option Nat} {m m' : Mem}

theorem info_of_underlying {t : TypeId} {d : TypeDesc} (h : P.underlying t = some d) : ∃ i, P.info? t = some i := by
  unfold Program.underlying at h
  split at h
  · exact ⟨_, ‹_›⟩
  · exact ⟨_, ‹_›⟩
  · cases h

theorem run_size {t : TypeId} {d : TypeDesc} (h : P.underlying t = some d) : (sizeOf t).run P w = .ok (P.cellsOf t) w := by
  obtain ⟨i, hi⟩ := info_of_underlying h
  simp [sizeOf, typeInfo, hi, Program.cellsOf]

theorem run_size' {t : TypeId} (h : (P.info? t).isSome = true) : (sizeOf t).run P w = .ok (P.cellsOf t) w := by
  obtain ⟨i, hi⟩ := Option.isSome_iff_exists.1 h
  simp [sizeOf, typeInfo, hi, Program.cellsOf]

theorem run_isAgg {t : TypeId} {b : Bool} (h : aggT P t = some b) : (isAgg t).run P w = .ok b w := by
  unfold aggT at h
  simp only [Option.map_eq_some_iff] at h
  obtain ⟨d, hd, rfl⟩ := h
  simp only [isAgg, Sem.run_bind, run_underlying hd, Result.andThen_ok]
  cases d <;> simp

theorem agg_underlying {t : TypeId} {b : Bool} (h : aggT P t = some b) : ∃ d, P.underlying t = some d := by
  unfold aggT at h
  simp only [Option.map_eq_some_iff] at h
  obtain ⟨d, hd, _⟩ := h
  exact ⟨d, hd⟩

theorem pv_cell {x : Leaf} {v : Value} (h1 : v.oneCell' = true) (h : RepLeaf w K m G x v) : RepPV w K m G (.l x) v := by
  cases x <;> first | trivial | exact ⟨h1, h⟩

/-- Cells from an address on, read as leaves. -/
def CellsAt (w : World) (K : Nat → Prop) (m : Mem) (G : Id → Value) (b off : Nat) (ls : List Leaf) : Prop :=
  ∀ (j : Nat) x, ls[j]? = some x → ∃ u, w.cell? ⟨b, off + j, none⟩ = some u ∧ u.oneCell' = true ∧ RepLeaf w K m G x u

theorem choose_list {α β : Type} (R : α → β → Prop) : ∀ (xs : List α), (∀ (i : Nat) x, xs[i]? = some x → ∃ y, R x y) → ∃ ys : List β, ys.length = xs.length ∧ ∀ (i : Nat) x y, xs[i]? = some x → ys[i]? = some y → R x y
  | [], _ => ⟨[], rfl, fun i x y h => by simp at h⟩
  | x :: xs, h => by
    obtain ⟨ys, hl, hr⟩ := choose_list R xs (fun i x hx => h (i + 1) x (by simpa using hx))
    obtain ⟨y, hy⟩ := h 0 x rfl
    refine ⟨y :: ys, by simp [hl], fun i x' y' hx hy' => ?_⟩
    cases i with
    | zero => simp at hx hy'; subst hx; subst hy'; exact hy
    | succ i => exact hr i x' y' (by simpa using hx) (by simpa using hy')

theorem choose_idx {β : Type} (R : Nat → β → Prop) : ∀ (n : Nat), (∀ i, i < n → ∃ y, R i y) → ∃ ys : List β, ys.length = n ∧ ∀ (i : Nat) y, ys[i]? = some y → R i y
  | 0, _ => ⟨[], rfl, fun i y h => by simp at h⟩
  | n + 1, h => by
    obtain ⟨ys, hl, hr⟩ := choose_idx R n (fun i hi => h i (by omega))
    obtain ⟨y, hy⟩ := h n (by omega)
    refine ⟨ys ++ [y], by simp [hl], fun i y' hy' => ?_⟩
    by_cases hi : i < n
    · rw [List.getElem?_append_left (by omega)] at hy'; exact hr i y' hy'
    · have hi' : i = n := by
        have := (List.getElem?_eq_some_iff.1 hy').1
        simp [hl] at this; omega
      subst hi'
      rw [List.getElem?_append_right (by omega)] at hy'
      simp [hl] at hy'
      subst hy'
      exact hy

theorem run_loadVar_leaves {b off : Nat} {ls : List Leaf} {t : TypeId} {x : PV} (h : CellsAt w K m G b off ls) (ht : takeLeaves (aggT P t) (P.cellsOf t) ls = some x) :
    ∃ v, (loadVar t ⟨b, off, none⟩).run P w = .ok v w ∧ RepPV w K m G x v := by
  unfold takeLeaves at ht
  split at ht
  · rename_i hg
    split at ht <;> cases ht
    rename_i hz
    obtain ⟨d, hd⟩ := agg_underlying hg
    obtain ⟨cs, hl, hc⟩ := choose_idx (fun i u => w.cell? ⟨b, off + i, none⟩ = some u ∧ u.oneCell' = true ∧ ∀ x, ls[i]? = some x → RepLeaf w K m G x u) (P.cellsOf t) (fun i hi => by
      obtain ⟨x, hx⟩ : ∃ x, ls[i]? = some x := ⟨_, List.getElem?_eq_getElem (by omega)⟩
      obtain ⟨u, h1, h2, h3⟩ := h i x hx
      exact ⟨u, h1, h2, fun x' hx' => by rw [hx] at hx'; cases hx'; exact h3⟩)
    have hr := run_loadCells_list (P := P) w ⟨b, off, none⟩ cs (fun j v hv => by rw [Addr.add_lit]; exact (hc j v hv).1)
    refine ⟨.agg cs.toArray, ?_, cs.toArray, rfl, by simp [hl, Nat.min_eq_left hz], fun i x hx => ?_⟩
    · rw [hl] at hr
      simp only [loadVar, Sem.run_bind, run_isAgg hg, Result.andThen_ok, if_true, run_size hd, hr, Sem.run_pure]
    · have hi : i < P.cellsOf t := by
        have := (List.getElem?_eq_some_iff.1 hx).1
        simp at this; omega
      have hx' : ls[i]? = some x := by simpa [List.getElem?_take, hi] using hx
      have hu : cs[i]? = some cs[i] := List.getElem?_eq_getElem (by omega)
      exact ⟨cs[i], by simp [hu], (hc i _ hu).2.1, (hc i _ hu).2.2 x hx'⟩
  · rename_i hg
    split at ht <;> cases ht
    rename_i x xs
    obtain ⟨u, h1, h2, h3⟩ := h 0 x rfl
    refine ⟨u, ?_, pv_cell h2 h3⟩
    simp only [loadVar, Sem.run_bind, run_isAgg hg, Result.andThen_ok, Bool.false_eq_true, if_false, run_load]
    rw [Nat.add_zero] at h1
    rw [h1]
  · cases ht

theorem rep_at {xs : List D} {v : Value} (h : RepPV w K m G (.l (.at xs)) v) : ∃ b off, v = .pointer (some ⟨b, off, none⟩) ∧ K b ∧ ∀ j d, xs[j]? = some d → ∃ u, w.cell? ⟨b, off + j, none⟩ = some u ∧ Rep w K d u := h.2

theorem getD_get {xss : List (List D)} {i : Nat} (hi : i < xss.length) : xss[i]? = some (xss.getD i []) := by
  rw [List.getD_eq_getElem?_getD, List.getElem?_eq_getElem hi]
  rfl

theorem cells_of_row {e z : Nat} {xss : List (List D)} {v : Value} (h : OwnRow w K e z xss v) {i : Nat} (hi : i < xss.length) :
    ∃ b c, v = .slice (some ⟨b, 0, none⟩) xss.length c ∧ (xss.getD i []).length = z ∧ CellsAt w K m G b (i * z) ((xss.getD i []).map .d) := by
  obtain ⟨flat, hown, ⟨hz, hf⟩, h1⟩ := h
  rcases hown.2 with ⟨_, h0⟩ | ⟨g, cap, cur, rfl, _, hg, hn, hm, hcs, htake⟩
  · omega
  · have hget := getD_get hi
    refine ⟨g, cap, rfl, hz _ (List.mem_of_getElem? hget), fun j x hx => ?_⟩
    simp only [List.getElem?_map, Option.map_eq_some_iff] at hx
    obtain ⟨d, hd, rfl⟩ := hx
    obtain ⟨u, hu, hr⟩ := hf i j d (by show (xss[i]?).bind _ = _; rw [hget]; exact hd)
    have := hown.cells (g := g) rfl (i * z + j) u hu
    rw [Addr.add_lit, Nat.zero_add] at this
    exact ⟨u, this, h1 u (List.mem_of_getElem? hu), hr⟩

theorem cells_of_rep {xss : List (List D)} {v : Value} (h : Rep w K (.sl xss) v) {i : Nat} (hi : i < xss.length) :
    ∃ b off c z, v = .slice (some ⟨b, off, none⟩) xss.length c ∧ K b ∧ (∀ xs ∈ xss, xs.length = z) ∧ (xss.getD i []).length = z ∧ (∀ j d, (xss.getD i [])[j]? = some d → ∃ u, w.cell? ⟨b, off + i * z + j, none⟩ = some u ∧ Rep w K d u) := by
  cases h with
  | nil => simp at hi
  | @sl z b off c _ vs hb hc hm hz hcell hr =>
    have hget := getD_get hi
    refine ⟨b, off, c, z, rfl, hb, hz, hz _ (List.mem_of_getElem? hget), fun j d hd => ?_⟩
    have hca : cellAt xss i j = some d := by show (xss[i]?).bind _ = _; rw [hget]; exact hd
    exact ⟨_, hcell i j d hca, hr i j d hca⟩

/-- A row of one's own, or frozen: what its address says, and what lies there. -/
theorem row_cells (h : Rel1 cx st a w K G B) {r : Id} {xss : List (List D)} {z i : Nat} (he : (∃ e, (st.mem r).2 = .row e z xss) ∨ (st.mem r).2 = .frz z xss) (hi : i < xss.length) :
    ∃ b off c, G r = .slice (some ⟨b, off, none⟩) xss.length c ∧ CellsAt w K st.mem G b (off + i * z) ((xss.getD i []).map .d) := by
  have hE := h.ents r
  rcases he with ⟨e, he⟩ | he
  · rw [he] at hE
    obtain ⟨b, c, h1, _, h2⟩ := cells_of_row (m := st.mem) (G := G) hE.1 hi
    exact ⟨b, 0, c, h1, by simpa using h2⟩
  · rw [he] at hE
    obtain ⟨hE, hz⟩ := hE
    have hlen := hz _ (List.mem_of_getElem? (getD_get hi))
    obtain ⟨b, off, c, z', h1, hb, _, hz', h2⟩ := cells_of_rep hE hi
    refine ⟨b, off, c, h1, fun j x hx => ?_⟩
    simp only [List.getElem?_map, Option.map_eq_some_iff] at hx
    obtain ⟨d, hd, rfl⟩ := hx
    obtain ⟨u, hu, hr⟩ := h2 j d hd
    rw [show z' = z by omega] at hu
    exact ⟨u, hu, hr.oneCell, hr⟩

theorem run_sure (b off : Nat) (f : Addr → Sem Value) : (do f (← Instr.sureAddr (.pointer (some ⟨b, off, none⟩))) : Sem Value).run P w = (f ⟨b, off, none⟩).run P w := by
  simp [Instr.sureAddr, Sem.run_bind]

theorem CellsAt.drop {b off : Nat} {ls : List Leaf} (h : CellsAt w K m G b off ls) (k : Nat) : CellsAt w K m G b (off + k) (ls.drop k) := by
  intro j x hx
  rw [List.getElem?_drop] at hx
  obtain ⟨u, h1, h2⟩ := h _ x hx
  exact ⟨u, by rw [Nat.add_assoc]; exact h1, h2⟩

theorem sound_load (h : Rel1 cx st a w K G B) {t : TypeId} {x : PV} {vx : Value} {r : PV × Mem} (hx : RepPV w K st.mem G x vx)
    (he : effLoad P st.mem t x = some r) : Sound P cx st a w (valS (Instr.loadAt t vx)) r := by
  have fin : ∀ {b off : Nat} {ls : List Leaf}, vx = .pointer (some ⟨b, off, none⟩) → CellsAt w K st.mem G b off ls → (takeLeaves (aggT P t) (P.cellsOf t) ls).map (fun v => (v, st.mem)) = some r → Sound P cx st a w (valS (Instr.loadAt t vx)) r := by
    intro b off ls hv hc ht
    simp only [Option.map_eq_some_iff] at ht
    obtain ⟨y, hy, rfl⟩ := ht
    obtain ⟨v, hr, hp⟩ := run_loadVar_leaves hc hy
    refine sound_val h (v := v) ?_ hp
    rw [hv]
    exact (run_sure b off (loadVar t)).trans hr
  unfold effLoad at he
  split at he
  · obtain ⟨b, off, rfl, hb, hc⟩ := rep_at hx
    refine fin rfl (fun j x hx => ?_) he
    simp only [List.getElem?_map, Option.map_eq_some_iff] at hx
    obtain ⟨d, hd, rfl⟩ := hx
    obtain ⟨u, hu, hr⟩ := hc j d hd
    exact ⟨u, hu, hr.oneCell, hr⟩
  · rename_i r' n i j
    obtain ⟨hle, hag⟩ := hx.2
    have key : ∀ {xss : List (List D)} {z : Nat}, (st.mem r').1 = n → ((∃ e, (st.mem r').2 = .row e z xss) ∨ (st.mem r').2 = .frz z xss) → i < xss.length → (takeLeaves (aggT P t) (P.cellsOf t) (((xss.getD i []).drop j).map .d)).map (fun v => (v, st.mem)) = some r → Sound P cx st a w (valS (Instr.loadAt t vx)) r := by
      intro xss z hn hee hi ht
      obtain ⟨b, off, c, hG, hc⟩ := row_cells h hee hi
      obtain ⟨b', off', len, c', hG', hv⟩ := hag hn
      rw [hG] at hG'
      cases hG'
      have hz : (st.mem r').2.z = z := by rcases hee with ⟨e, he⟩ | he <;> rw [he] <;> rfl
      rw [hz] at hv
      refine fin hv (hc.drop j) ?_
      rw [← List.map_drop]
      exact ht
    split at he
    · rename_i hm
      split at he
      · rename_i hn
        exact key (by rw [hm]; exact hn.1) (.inl ⟨_, by rw [hm]⟩) hn.2 he
      · cases he
    · rename_i hm
      split at he
      · rename_i hn
        exact key (by rw [hm]; exact hn.1) (.inr (by rw [hm])) hn.2 he
      · cases he
    · cases he
  · rename_i c n off
    obtain ⟨hle, hag⟩ := hx.2
    split at he
    · rename_i n' ls hm
      split at he
      · rename_i hn
        subst hn
        obtain ⟨b, rfl, hG⟩ := hag
        have hG := hG (by rw [hm])
        have hE := h.ents c
        rw [hm] at hE
        obtain ⟨b', cs, T, hG', hB, hh, hsz, hc⟩ := hE
        rw [hG] at hG'
        cases hG'
        refine fin rfl (fun j x hx => ?_) he
        rw [List.getElem?_drop] at hx
        obtain ⟨u, hu, h1, h2⟩ := hc _ x hx
        exact ⟨u, by rw [cell_of_row w b _ cs T (0, 0) hh]; exact hu, h1, h2⟩
      · cases he
    · cases he
  · cases he


theorem rep_int {k : IntKind} {i : Int} {v : Value} (h : RepPV w K m G (.l (.d (.v (.int k i)))) v) : v = .int k i := rep_d h

theorem run_indexAt_sl {t e : TypeId} (hu : elT P t = some e) (b off len c : Nat) (k : IntKind) (i : Int) (h0 : 0 ≤ i) (h1 : i < len) :
    (Instr.indexAt t (.slice (some ⟨b, off, none⟩) len c) (.int k i)).run P w = .ok (.pointer (some ⟨b, off + i.toNat * P.cellsOf e, none⟩)) w := by
  obtain ⟨h2, h3⟩ := elT_both hu
  simp [Instr.indexAt, asIntOf, Sem.run_bind, run_underlying h2, h0, h1, run_size' h3, Addr.add_lit]

theorem sound_indexAddr (h : Rel1 cx st a w K G B) {t : TypeId} {x i : PV} {vx vi : Value} {r : PV × Mem} (hx : RepPV w K st.mem G x vx) (hi : RepPV w K st.mem G i vi)
    (he : effIndexAddr P st.mem t x i = some r) : Sound P cx st a w (valS (Instr.indexAt t vx vi)) r := by
  unfold effIndexAddr at he
  split at he
  · rename_i e k n hel
    obtain rfl := rep_int hi
    split at he
    · rename_i xss
      split at he <;> cases he
      rename_i hc
      obtain ⟨h0, h1, h2⟩ := hc
      have hlt : n.toNat < xss.length := by omega
      obtain ⟨b, off, c, z, rfl, hb, hz, hz', hcell⟩ := cells_of_rep hx.2 hlt
      refine sound_val h (run_indexAt_sl hel b off _ c k n h0 h1) ⟨rfl, b, _, rfl, hb, ?_⟩
      rw [← h2, hz']
      exact hcell
    · rename_i r' n'
      obtain ⟨hle, hag⟩ := hx.2
      have key : ∀ {xss : List (List D)} {z : Nat}, (st.mem r').1 = n' → ((∃ e, (st.mem r').2 = .row e z xss) ∨ (st.mem r').2 = .frz z xss) → 0 ≤ n → n < xss.length → z = P.cellsOf e → Sound P cx st a w (valS (Instr.indexAt t vx (.int k n))) (.l (.oat r' n' n.toNat 0), st.mem) := by
        intro xss z hn hee h0 h1 hz
        obtain ⟨b, off, c, hG, _⟩ := row_cells (i := n.toNat) h hee (by omega)
        obtain rfl := (hag hn).trans hG
        have hzz : (st.mem r').2.z = z := by rcases hee with ⟨e, he⟩ | he <;> rw [he] <;> rfl
        exact sound_val h (run_indexAt_sl hel b off _ c k n h0 h1) ⟨rfl, hle, fun _ => ⟨b, off, _, c, hG, by rw [hzz, hz, Nat.add_zero]⟩⟩
      split at he
      · rename_i hm
        split at he <;> cases he
        rename_i hn
        exact key (by rw [hm]; exact hn.1) (.inl ⟨_, by rw [hm]⟩) hn.2.1 hn.2.2.1 hn.2.2.2
      · rename_i hm
        split at he <;> cases he
        rename_i hn
        exact key (by rw [hm]; exact hn.1) (.inr (by rw [hm])) hn.2.1 hn.2.2.1 hn.2.2.2
      · cases he
    · cases he
  · cases he

theorem fldT_spec {s : TypeId} {f o ft : Nat} (h : fldT P s f = some (o, ft)) : ∃ fs fd, P.underlying s = some (.struct fs) ∧ fs[f]? = some fd ∧ fd.offset = o ∧ fd.type = ft ∧ (P.info? ft).isSome = true ∧ P.cellsOf ft ≠ 0 := by
  unfold fldT at h
  split at h
  · rename_i fs hu
    cases hf : fs[f]? with
    | none => rw [hf] at h; cases h
    | some x =>
      rw [hf] at h
      simp only [Option.bind_some] at h
      split at h
      · rename_i hc
        cases h
        exact ⟨fs, x, hu, hf, rfl, rfl, hc.1, hc.2⟩
      · cases h
  · cases h

theorem run_fieldAt {s : TypeId} {f o ft : Nat} (h : fldT P s f = some (o, ft)) (b off : Nat) :
    (Instr.fieldAt s (.pointer (some ⟨b, off, none⟩)) f).run P w = .ok (.pointer (some ⟨b, off + o, none⟩)) w := by
  obtain ⟨fs, fd, hu, hf, rfl, rfl, hs, hz⟩ := fldT_spec h
  simp [Instr.fieldAt, Sem.run_bind, run_underlying hu, hf, Instr.sureAddr, fieldPlace, run_size' hs, hz, Addr.add_lit]

theorem sound_fieldAddr (h : Rel1 cx st a w K G B) {s : TypeId} {f : Nat} {x : PV} {vx : Value} {r : PV × Mem} (hx : RepPV w K st.mem G x vx)
    (he : effFieldAddr P st.mem s x f = some r) : Sound P cx st a w (valS (Instr.fieldAt s vx f)) r := by
  unfold effFieldAddr at he
  split at he
  · rename_i o ft hf
    split at he
    · rename_i xs
      cases he
      obtain ⟨b, off, rfl, hb, hc⟩ := rep_at hx
      refine sound_val h (run_fieldAt hf b off) ⟨rfl, b, _, rfl, hb, fun j d hd => ?_⟩
      rw [List.getElem?_drop] at hd
      obtain ⟨u, h1, h2⟩ := hc _ d hd
      exact ⟨u, by rw [Nat.add_assoc]; exact h1, h2⟩
    · rename_i r' n i j
      split at he <;> cases he
      rename_i hn
      obtain ⟨hle, hag⟩ := hx.2
      obtain ⟨b, off, len, c, hG, rfl⟩ := hag hn
      exact sound_val h (run_fieldAt hf b _) ⟨rfl, hle, fun _ => ⟨b, off, len, c, hG, by rw [Nat.add_assoc]⟩⟩
    · rename_i c n off
      split at he <;> cases he
      rename_i hn
      obtain ⟨hle, b, rfl, hG⟩ := hx.2
      exact sound_val h (run_fieldAt hf b off) ⟨rfl, hle, b, rfl, hG⟩
    · cases he
  · cases he

theorem run_part_leaves {cs : Array Value} {ls : List Leaf} {t : TypeId} {o : Nat} {x : PV} (hs : (P.info? t).isSome = true)
    (h : ∀ (i : Nat) x, ls[i]? = some x → ∃ u, cs[i]? = some u ∧ u.oneCell' = true ∧ RepLeaf w K m G x u) (hsz : cs.size = ls.length)
    (ht : takeLeaves (aggT P t) (P.cellsOf t) (ls.drop o) = some x) : ∃ v, (part t cs o).run P w = .ok v w ∧ RepPV w K m G x v := by
  unfold takeLeaves at ht
  split at ht
  · rename_i hg
    split at ht <;> cases ht
    rename_i hz
    refine ⟨.agg (cs.extract o (o + P.cellsOf t)), ?_, _, rfl, ?_, fun i x hx => ?_⟩
    · simp only [part, Sem.run_bind, run_isAgg hg, Result.andThen_ok, if_true, run_size' hs, Sem.run_pure]
    · simp only [Array.size_extract, List.length_take, List.length_drop] at *
      omega
    · have hi : i < P.cellsOf t := by
        have := (List.getElem?_eq_some_iff.1 hx).1
        simp at this; omega
      have hx' : ls[o + i]? = some x := by simpa [List.getElem?_take, hi, List.getElem?_drop] using hx
      obtain ⟨u, h1, h2⟩ := h _ x hx'
      refine ⟨u, ?_, h2⟩
      simp only [List.length_drop] at hz
      rw [Array.getElem?_extract]
      have := (List.getElem?_eq_some_iff.1 hx').1
      rw [if_pos (by omega)]
      exact h1
  · rename_i hg
    split at ht <;> cases ht
    rename_i x xs hd
    have hx : ls[o]? = some x := by
      have := List.getElem?_drop (xs := ls) (i := o) (j := 0)
      rw [hd] at this
      simpa using this.symm
    obtain ⟨u, h1, h2, h3⟩ := h o x hx
    refine ⟨u, ?_, pv_cell h2 h3⟩
    simp only [part, Sem.run_bind, run_isAgg hg, Result.andThen_ok, Bool.false_eq_true, if_false, h1, Sem.run_pure]
  · cases ht

theorem sound_field (h : Rel1 cx st a w K G B) {s : TypeId} {f : Nat} {x : PV} {vx : Value} {r : PV × Mem} (hx : RepPV w K st.mem G x vx)
    (he : effField P st.mem s x f = some r) : Sound P cx st a w (valS (Instr.field s vx f)) r := by
  unfold effField at he
  split at he
  · rename_i o ft hf
    split at he
    · rename_i ls
      simp only [Option.map_eq_some_iff] at he
      obtain ⟨y, hy, rfl⟩ := he
      obtain ⟨cs, rfl, hsz, hc⟩ := hx
      obtain ⟨fs, fd, hu, hfd, rfl, rfl, hs, hz⟩ := fldT_spec hf
      obtain ⟨v, hr, hp⟩ := run_part_leaves (P := P) hs hc hsz hy
      refine sound_val h (v := v) ?_ hp
      simp only [Instr.field, Sem.run_bind, run_underlying hu, Result.andThen_ok, hfd, asAgg, Sem.run_pure, hr]
    · cases he
  · cases he

theorem sound_extract (h : Rel1 cx st a w K G B) {i : Nat} {x : PV} {vx : Value} {r : PV × Mem} (hx : RepPV w K st.mem G x vx)
    (he : effExtract st.mem x i = some r) : Sound P cx st a w (valS (Instr.extract vx i)) r := by
  unfold effExtract at he
  split at he
  · rename_i xs
    simp only [Option.map_eq_some_iff] at he
    obtain ⟨y, hy, rfl⟩ := he
    obtain ⟨vs, rfl, hsz, hc⟩ := hx
    obtain ⟨u, hu, hr⟩ := hc i y hy
    exact sound_val h (v := u) (by simp [Instr.extract, hu]) (RepPV.one hr)
  · cases he

theorem elems_len (h : Rel1 cx st a w K G B) {x : Leaf} {vx : Value} {xss : List (List D)} (hx : RepPV w K st.mem G (.l x) vx) (he : elems st.mem x = some xss) :
    ∃ A c, vx = .slice A xss.length c ∧ xss.length ≤ c ∧ c ≤ maxLen := by
  unfold elems at he
  split at he
  · cases he
    exact hx.2.slice
  · cases he
    exact ⟨none, 0, hx.2, Nat.le_refl _, by unfold maxLen; omega⟩
  · rename_i r n
    obtain ⟨hle, hag⟩ := hx.2
    have hE := h.ents r
    split at he
    · rename_i n' e z ys hm
      split at he <;> cases he
      rename_i hn
      rw [hm] at hE
      obtain rfl := hag (by rw [hm]; exact hn)
      obtain ⟨⟨flat, hown, _⟩, _⟩ := hE
      rcases hown.2 with ⟨h1, h0⟩ | ⟨g, cap, cur, h1, _, _, h2, h3, _⟩
      · rw [h0]; exact ⟨none, 0, h1, Nat.le_refl _, by unfold maxLen; omega⟩
      · exact ⟨_, _, h1, h2, h3⟩
    · rename_i n' z ys hm
      split at he <;> cases he
      rename_i hn
      rw [hm] at hE
      obtain rfl := hag (by rw [hm]; exact hn)
      exact hE.1.slice
    · cases he
  · cases he

theorem strT_spec {t : TypeId} (h : strT P t = true) : P.underlying t = some .string := by
  unfold strT at h
  split at h
  · assumption
  · cases h

theorem sound_len (h : Rel1 cx st a w K G B) {t : TypeId} {args : Array Value} {ts : Array TypeId} {ty : TypeId} {x : PV} {vx : Value} {r : PV × Mem} (hx : RepPV w K st.mem G x vx)
    (ha : args[0]? = some vx) (ht : ts[0]? = some t) (he : effLen P st.mem t x = some r) : Sound P cx st a w (valS (Builtin.len_ ts ty args)) r := by
  unfold effLen at he
  split at he
  · split at he <;> cases he
    rename_i hs
    obtain rfl := rep_d hx
    refine sound_val h ?_ (rep_mk rfl)
    simp [Builtin.len_, ha, ht, Sem.run_bind, run_underlying (strT_spec hs), goInt]
  · split at he <;> cases he
    rename_i he1 he2
    obtain ⟨A, c, rfl, _, _⟩ := elems_len h hx he2
    refine sound_val h ?_ (rep_mk rfl)
    simp [Builtin.len_, ha, ht, Sem.run_bind, run_underlying (elT_spec he1), goInt]
  · cases he

theorem sound_minmax (h : Rel1 cx st a w K G B) {mx : Bool} {ts : Array TypeId} {ty : TypeId} {x y : PV} {vx vy : Value} {r : PV × Mem} (hx : RepPV w K st.mem G x vx) (hy : RepPV w K st.mem G y vy)
    (he : effMinMax st.mem mx x y = some r) : Sound P cx st a w (valS (if mx then Builtin.max_ ts ty #[vx, vy] else Builtin.min_ ts ty #[vx, vy])) r := by
  unfold effMinMax at he
  split at he
  · split at he <;> cases he
    rename_i hk
    subst hk
    obtain rfl := rep_d hx
    obtain rfl := rep_d hy
    cases mx
    · refine sound_val h ?_ (rep_mk rfl)
      simp [Builtin.min_, Builtin.min2, Sem.run_bind]
    · refine sound_val h ?_ (rep_mk rfl)
      simp [Builtin.max_, Builtin.max2, Sem.run_bind]
  · cases he

theorem sound_convert (h : Rel1 cx st a w K G B) {s t : TypeId} {x : PV} {vx : Value} {r : PV × Mem} (hx : RepPV w K st.mem G x vx)
    (he : effConvert P st.mem s t x = some r) : Sound P cx st a w (valS (convert s t vx)) r := by
  unfold effConvert at he
  split at he
  · split at he <;> cases he
    rename_i hs ht
    obtain rfl := rep_d hx
    refine sound_val h ?_ (rep_mk rfl)
    simp [convert, Sem.run_bind, run_underlying hs, run_underlying ht, Conv.intToInt]
  · cases he

theorem sound_index (h : Rel1 cx st a w K G B) {t : TypeId} {x i : PV} {vx vi : Value} {r : PV × Mem} (hx : RepPV w K st.mem G x vx) (hi : RepPV w K st.mem G i vi)
    (he : effIndex P st.mem t x i = some r) : Sound P cx st a w (valS (Instr.index t vx vi)) r := by
  unfold effIndex at he
  split at he
  · rename_i s k n
    split at he <;> cases he
    rename_i hc
    obtain ⟨h1, h2, h3⟩ := hc
    obtain rfl := rep_d hx
    obtain rfl := rep_int hi
    refine sound_val h ?_ (rep_mk rfl)
    have hg : s[n.toNat]? = some (s.data.toList.getD n.toNat 0) := by
      rw [getElem?_pos s n.toNat h3]
      have h4 : n.toNat < s.data.toList.length := by simpa using h3
      rw [List.getD_eq_getElem?_getD, List.getElem?_eq_getElem h4]
      rfl
    simp [Instr.index, asIntOf, Sem.run_bind, run_underlying (strT_spec h1), h2, hg]
  · cases he

theorem caps_spec {xs : List PV} {cs : List (Id × Nat)} (h : capsOf xs = some cs) : xs = cs.map fun c => PV.l (.ptr c.1 c.2 0) := by
  induction xs generalizing cs with
  | nil => simp [capsOf] at h; subst h; rfl
  | cons x xs ih =>
    unfold capsOf at h
    split at h
    · rename_i h'; cases h'
    · rename_i c n r h'
      cases h'
      simp only [Option.map_eq_some_iff] at h
      obtain ⟨cs', h1, rfl⟩ := h
      rw [ih h1]; rfl
    · cases h

theorem sound_makeFunc (h : Rel1 cx st a w K G B) {fn : Fn} {first caps : Array Operand} {r : PV × Mem}
    (he : effMakeFunc st.mem fn (first.toList.map st.ev) (caps.toList.map st.ev) = some r) : Sound P cx st a w (valS (Instr.makeFunc fn (first.map a.eval) (caps.map a.eval))) r := by
  unfold effMakeFunc at he
  split at he
  · rename_i fx cs hf hc
    cases he
    have hf0 : first = #[] := by
      cases first with
      | mk l => cases l with
        | nil => rfl
        | cons y ys => simp at hf
    subst hf0
    have hcs := caps_spec hc
    refine sound_val h (v := .func (.func _) #[] (caps.map a.eval)) (by simp [Instr.makeFunc]) ⟨rfl, _, rfl, ?_, fun i c n hi => ?_⟩
    · have := congrArg List.length hcs
      simpa using this
    · have hi' : (caps.toList.map st.ev)[i]? = some (PV.l (.ptr c n 0)) := by rw [hcs, List.getElem?_map, hi]; rfl
      rw [List.getElem?_map, Option.map_eq_some_iff] at hi'
      obtain ⟨o, ho, hoe⟩ := hi'
      have hr := rep_ev h o
      rw [hoe] at hr
      obtain ⟨hle, b, hv, hG⟩ := hr.2
      refine ⟨hle, b, ?_, hG⟩
      rw [Array.getElem?_map, ← Array.getElem?_toList, ho]
      simp [hv]
  · cases he

end Go.Proofs.Ytfnplmglpbihhaa.Vm
