/- Soundness of a store, and of all operations together. -/
import Derived.Test.YtfnplmglpbihhaaVmF
namespace Go.Proofs.Ytfnplmglpbihhaa.Vm
open Go Go.RowKit
set_option linter.unusedVariables false
set_option linter.unusedSimpArgs false

variable {P : Program} {cx : Cx} {st : St} {a : Act} {w w' : World} {K K' : Nat → Prop} {G G' : Id → Value} {B B' : Id → Option Nat} {m m' : Mem}

theorem grown_setRow (w : World) (b : Nat) (c : Array Value) (row : Option Nat) (h : row = some b) : w.grownBy (w.setRow b c) row :=
  ⟨rfl, rfl, rfl, by simp, fun k _ hk => setRow_other w b k _ (fun e => hk (by rw [h, e]))⟩

theorem ext_same {id : Id} {n' : Nat} {e' : Ent} {v' : Value} (h : (m id).1 = n') (hv : v' = G id) (hz : e'.z = (m id).2.z) : Ext m G (mset m id (n', e')) (updF G id v') := by
  intro id'
  by_cases hi : id' = id
  · subst hi
    rw [mset_same, updF_same]
    exact .inl ⟨h.symm, hv, hz⟩
  · rw [mset_ne _ _ hi, updF_ne _ _ hi]
    exact .inl ⟨rfl, rfl, rfl⟩

theorem run_storeVar {t : TypeId} {b off : Nat} {v : Value} {cs : Array Value} {T : TypeId} (hi : (P.info? t).isSome = true) (hsz : v.cells.size = P.cellsOf t) (hb : w.heap[b]? = some (.cells cs T (0, 0)))
    (hfit : off + v.cells.size ≤ cs.size) (h1 : ∀ u ∈ v.cells.toList, u.oneCell' = true) :
    (Instr.storeAt t (.pointer (some ⟨b, off, none⟩)) v).run P w = .ok () (w.setRow b (cs.toList.take off ++ v.cells.toList ++ cs.toList.drop (off + v.cells.toList.length)).toArray) := by
  have := run_storeCells_at P b off T v.cells.toList 0 cs w hb (by simpa using hfit) h1
  simp only [Nat.add_zero] at this
  simp [Instr.storeAt, Instr.sureAddr, storeVar, Sem.run_bind, run_size' hi, hsz, this]

theorem setF_self {α β : Type} [DecidableEq α] (f : α → β) (x : α) : updF f x (f x) = f := by
  funext z
  by_cases h : z = x
  · subst h; exact updF_same _ _ _
  · exact updF_ne _ _ h

/-- A store into a variable of one's own. -/
theorem sound_store_ptr (h : Rel1 cx st a w K G B) {t : TypeId} {c : Id} {n off : Nat} {x : PV} {va vx : Value} {ls ls' : List Leaf} (ha : RepPV w K st.mem G (.l (.ptr c n off)) va) (hx : RepPV w K st.mem G x vx)
    (hm : st.mem c = (n, .cell ls)) (hg : x.good = true) (hi : (P.info? t).isSome = true) (hsz : x.leaves.length = P.cellsOf t) (ho : overlay ls off x.leaves = some ls') :
    Sound P cx st a w (unitS (Instr.storeAt t va vx)) (.l .any, mset st.mem c (n, .cell ls')) := by
  obtain ⟨hle, b, rfl, hG⟩ := ha.2
  have hG := hG (by rw [hm])
  have hE := h.ents c
  rw [hm] at hE
  obtain ⟨b', cs, T, hG', hB, hh, hcs, hc⟩ := hE
  rw [hG] at hG'
  cases hG'
  have hcx := cells_of_pv hx hg
  have hc0 : Cells w K st.mem G cs.toList ls := ⟨by simpa using hcs, fun i y hy => by
    obtain ⟨u, h1, h2⟩ := hc i y hy
    exact ⟨u, by simpa using h1, h2⟩⟩
  obtain ⟨hc1, hfit⟩ := hc0.overlay hcx ho
  have hone : ∀ u ∈ vx.cells.toList, u.oneCell' = true := by
    intro u hu
    obtain ⟨i, hi, rfl⟩ := List.getElem_of_mem hu
    obtain ⟨y, hy⟩ : ∃ y, x.leaves[i]? = some y := ⟨_, List.getElem?_eq_getElem (by rw [← hcx.1]; exact hi)⟩
    obtain ⟨u, h1, h2, _⟩ := hcx.2 i y hy
    rw [List.getElem?_eq_getElem hi] at h1
    cases h1
    exact h2
  have hrun := run_storeVar (P := P) (w := w) (off := off) hi (by rw [← hsz, ← hcx.1]; simp) hh (by simpa using hfit) hone
  have hgr := grown_setRow w b (cs.toList.take off ++ vx.cells.toList ++ cs.toList.drop (off + vx.cells.toList.length)).toArray (B c) hB
  have hsame : SameOn K w _ := fun k hk => hgr.block k (h.keptLt k hk) (fun e => (h.mine c k e.symm).1 hk)
  have hext : Ext st.mem G (mset st.mem c (n, .cell ls')) (updF G c (G c)) := ext_same (by rw [hm]) rfl (by rw [hm]; rfl)
  have hu := h.upd c n (.cell ls') (G c) (some b) hgr (.inr ⟨by rw [hm], rfl, by rw [hm]; rfl⟩) ⟨b, _, T, by rw [updF_same]; exact hG, updF_same _ _ _, setRow_heap w b cs _ T (0, 0) hh, by simpa using hc1.1, fun i y hy => by
      obtain ⟨u, h1, h2, h3⟩ := hc1.2 i y hy
      exact ⟨u, by simpa using h1, h2, h3.mono (fun _ hb => hb) hsame hext⟩⟩
    (fun k hk => by cases hk; exact ⟨.inl hB, by have := (h.mine c b hB).2.1; simpa using this⟩) (fun _ h2 => absurd rfl (h2 ls'))
  exact ⟨_, _, K, _, _, run_unitS hrun, hu, .inr ⟨rfl, rfl⟩⟩

theorem cellAt_set {xss : List (List D)} {xs : List D} {i i' j : Nat} {d : D} (h : cellAt (xss.set i xs) i' j = some d) : (i' = i ∧ xs[j]? = some d ∧ i < xss.length) ∨ (i' ≠ i ∧ cellAt xss i' j = some d) := by
  unfold cellAt at *
  rw [List.getElem?_set] at h
  by_cases hi : i = i'
  · rw [if_pos hi] at h
    split at h
    · exact .inl ⟨hi.symm, h, ‹_›⟩
    · cases h
  · rw [if_neg hi] at h
    exact .inr ⟨fun e => hi e.symm, h⟩

/-- A store into a row of one's own. -/
theorem sound_store_row (h : Rel1 cx st a w K G B) {t : TypeId} {r : Id} {n i j e z : Nat} {va vx : Value} {xss : List (List D)} {xs ds ys : List D} (ha : RepPV w K st.mem G (.l (.oat r n i j)) va)
    (hm : st.mem r = (n, .row e z xss)) (hi : (P.info? t).isSome = true) (hget : xss[i]? = some ys) (hsz : ds.length = P.cellsOf t) (hdl : vx.cells.toList.length = ds.length)
    (hd : ∀ (k : Nat) d, ds[k]? = some d → ∃ u, vx.cells.toList[k]? = some u ∧ Rep w K d u) (ho : overlay ys j ds = some xs) :
    Sound P cx st a w (unitS (Instr.storeAt t va vx)) (.l .any, mset st.mem r (n, .row e z (xss.set i xs))) := by
  have hil : i < xss.length := (List.getElem?_eq_some_iff.1 hget).1
  obtain ⟨hle, hag⟩ := ha.2
  obtain ⟨b, off, len, c, hG, rfl⟩ := hag (by rw [hm])
  have hE := h.ents r
  rw [hm] at hE
  obtain ⟨⟨flat, hown, ⟨hz, hf⟩, h1⟩, hB⟩ := hE
  have hzz : (st.mem r).2.z = z := by rw [hm]; rfl
  rw [hzz]
  rcases hown.2 with ⟨_, h0⟩ | ⟨g, cap, cur, hv, _, hg, hn, hmx, hcs, htake⟩
  · omega
  · rw [hG] at hv
    cases hv
    have hBb : B r = some b := by rw [hB, hG]; rfl
    have hxl : ys.length = z := hz _ (List.mem_of_getElem? hget)
    have hov := ho
    unfold overlay at hov
    split at hov <;> cases hov
    rename_i hfit
    have hone : ∀ u ∈ vx.cells.toList, u.oneCell' = true := cells_data hdl hd
    have hrow : (i + 1) * z ≤ xss.length * z := Nat.mul_le_mul_right z (by omega)
    have hcap : xss.length * z ≤ c * z := Nat.mul_le_mul_right z hn
    rw [Nat.add_mul] at hrow
    have hfit' : 0 + i * z + j + vx.cells.size ≤ cur.size := by
      have : vx.cells.size = ds.length := by simpa using hdl
      rw [this, hcs]
      omega
    have hrun := run_storeVar (P := P) (w := w) (off := 0 + i * z + j) hi (by rw [← hsz, ← hdl]; simp) hg hfit' hone
    have hgr := grown_setRow w b (cur.toList.take (0 + i * z + j) ++ vx.cells.toList ++ cur.toList.drop (0 + i * z + j + vx.cells.toList.length)).toArray (B r) hBb
    have hsame : SameOn K w _ := fun k hk => hgr.block k (h.keptLt k hk) (fun e => (h.mine r k e.symm).1 hk)
    -- the row's cells behind the store
    have hl2 : (xss.set i (ys.take j ++ ds ++ ys.drop (j + ds.length))).length = xss.length := by simp
    have hflen : flat.length = xss.length * z := hown.1
    have hnew : (cur.toList.take (0 + i * z + j) ++ vx.cells.toList ++ cur.toList.drop (0 + i * z + j + vx.cells.toList.length)).take (xss.length * z) = flat.take (i * z + j) ++ vx.cells.toList ++ flat.drop (i * z + j + ds.length) := by
      rw [Nat.zero_add, hdl, ← htake]
      apply List.ext_getElem?
      intro k
      simp only [List.getElem?_take, List.getElem?_append, List.getElem?_drop, List.length_append, List.length_take, hdl]
      have e1 : min (i * z + j) cur.toList.length = i * z + j := Nat.min_eq_left (by rw [Array.length_toList, hcs]; omega)
      have e0 : cur.toList.length = c * z := by rw [Array.length_toList, hcs]
      have e2 : min (i * z + j) (min (xss.length * z) cur.toList.length) = i * z + j := Nat.min_eq_left (Nat.le_min.2 ⟨by omega, by omega⟩)
      rw [e1, e2]
      by_cases k1 : k < xss.length * z
      · rw [if_pos k1]
        by_cases k2 : k < i * z + j + ds.length
        · rw [if_pos k2, if_pos k2]
          by_cases k3 : k < i * z + j
          · rw [if_pos k3, if_pos k3, if_pos k3, if_pos k3, if_pos k1]
          · rw [if_neg k3, if_neg k3]
        · rw [if_neg k2, if_neg k2]
          rw [if_pos (by omega)]
      · rw [if_neg k1]
        rw [if_neg (by omega), if_neg (by omega)]
    refine ⟨_, _, K, _, _, run_unitS hrun, h.upd r n (.row e z (xss.set i (ys.take j ++ ds ++ ys.drop (j + ds.length)))) (G r) (B r) hgr (.inr ⟨by rw [hm], rfl, by rw [hm]; rfl⟩) ?_ ?_ ?_, .inr ⟨rfl, rfl⟩⟩
    · refine ⟨⟨flat.take (i * z + j) ++ vx.cells.toList ++ flat.drop (i * z + j + ds.length), ?_, ⟨fun ys hys => ?_, fun i' j' d hd' => ?_⟩, fun u hu => ?_⟩, by rw [updF_same, updF_same]; exact hB⟩
      · rw [updF_same, hl2, hG]
        refine ⟨?_, .inr ⟨b, c, _, rfl, Nat.zero_le _, setRow_heap w b cur _ e (0, 0) hg, hn, hmx, ?_, ?_⟩⟩
        · simp only [List.length_append, List.length_take, List.length_drop, hflen, hdl]
          omega
        · simp only [List.size_toArray, List.length_append, List.length_take, List.length_drop, Array.length_toList, hcs]
          simp only [Array.length_toList] at hdl
          omega
        · exact hnew
      · rcases List.mem_or_eq_of_mem_set hys with hy | hy
        · exact hz ys hy
        · rw [hy]
          simp only [List.length_append, List.length_take, List.length_drop, hxl]
          omega
      · rcases cellAt_set hd' with ⟨rfl, hx, _⟩ | ⟨hne, hx⟩
        · have hj' : j' < z := by
            have := (List.getElem?_eq_some_iff.1 hx).1
            simp only [List.length_append, List.length_take, List.length_drop, hxl] at this
            omega
          by_cases k1 : j' < j
          · rw [List.getElem?_append_left (by simp; omega), List.getElem?_append_left (by simp; omega), List.getElem?_take, if_pos k1] at hx
            obtain ⟨u, q1, q2⟩ := hf i' j' d (by show (xss[i']?).bind _ = _; rw [hget]; exact hx)
            refine ⟨u, ?_, q2.mono (fun _ hb => hb) hsame⟩
            rw [List.getElem?_append_left (by simp; omega), List.getElem?_append_left (by simp [hflen]; omega), List.getElem?_take, if_pos (by omega)]
            exact q1
          · by_cases k2 : j' < j + ds.length
            · rw [List.getElem?_append_left (by simp; omega), List.getElem?_append_right (by simp; omega)] at hx
              have e3 : j' - (List.take j ys).length = j' - j := by simp; omega
              rw [e3] at hx
              obtain ⟨u, q1, q2⟩ := hd _ d hx
              refine ⟨u, ?_, q2.mono (fun _ hb => hb) hsame⟩
              rw [List.getElem?_append_left (by simp [hflen] at hdl ⊢; omega), List.getElem?_append_right (by simp; omega)]
              have e4 : i' * z + j' - (List.take (i' * z + j) flat).length = j' - j := by simp [hflen]; omega
              rw [e4]
              exact q1
            · rw [List.getElem?_append_right (by simp; omega), List.getElem?_drop] at hx
              have e5 : j + ds.length + (j' - (List.take j ys ++ ds).length) = j' := by simp; omega
              rw [e5] at hx
              obtain ⟨u, q1, q2⟩ := hf i' j' d (by show (xss[i']?).bind _ = _; rw [hget]; exact hx)
              refine ⟨u, ?_, q2.mono (fun _ hb => hb) hsame⟩
              rw [List.getElem?_append_right (by simp [hflen] at hdl ⊢; omega), List.getElem?_drop]
              have e6 : i' * z + j + ds.length + (i' * z + j' - (List.take (i' * z + j) flat ++ vx.cells.toList).length) = i' * z + j' := by simp [hflen] at hdl ⊢; omega
              rw [e6]
              exact q1
        · obtain ⟨q0, q00⟩ := cellAt_lt hz hx
          obtain ⟨u, q1, q2⟩ := hf i' j' d hx
          refine ⟨u, ?_, q2.mono (fun _ hb => hb) hsame⟩
          by_cases k1 : i' < i
          · have : (i' + 1) * z ≤ i * z := Nat.mul_le_mul_right z (by omega)
            rw [Nat.add_mul] at this
            rw [List.getElem?_append_left (by simp [hflen]; omega), List.getElem?_append_left (by simp [hflen]; omega), List.getElem?_take, if_pos (by omega)]
            exact q1
          · have : (i + 1) * z ≤ i' * z := Nat.mul_le_mul_right z (by omega)
            rw [Nat.add_mul] at this
            rw [List.getElem?_append_right (by simp [hflen] at hdl ⊢; omega), List.getElem?_drop]
            have e6 : i * z + j + ds.length + (i' * z + j' - (List.take (i * z + j) flat ++ vx.cells.toList).length) = i' * z + j' := by simp [hflen] at hdl ⊢; omega
            rw [e6]
            exact q1
      · rcases List.mem_append.1 hu with hu | hu
        · rcases List.mem_append.1 hu with hu | hu
          · exact h1 u (List.mem_of_mem_take hu)
          · exact hone u hu
        · exact h1 u (List.mem_of_mem_drop hu)
    · intro k hk
      rw [hBb] at hk
      cases hk
      exact ⟨.inl hBb, by have := (h.mine r b hBb).2.1; simpa using this⟩
    · intro q1 _
      exact absurd rfl (q1 _ _ _)


theorem sound_store (h : Rel1 cx st a w K G B) {t : TypeId} {x y : PV} {va vx : Value} {r : PV × Mem} (ha : RepPV w K st.mem G x va) (hx : RepPV w K st.mem G y vx)
    (he : effStore P st.mem t x y = some r) : Sound P cx st a w (unitS (Instr.storeAt t va vx)) r := by
  unfold effStore at he
  split at he
  · split at he
    · rename_i c n off n' ls hm
      split at he
      · rename_i hc
        obtain ⟨rfl, h1, h2, h3⟩ := hc
        simp only [Option.map_eq_some_iff] at he
        obtain ⟨ls', ho, rfl⟩ := he
        exact sound_store_ptr h ha hx hm h1 h2 h3 ho
      · cases he
    · cases he
  · rename_i r' n i j
    split at he
    · rename_i ds m1 hds
      split at he
      · rename_i n' e z xss hm
        split at he
        · rename_i hc
          obtain ⟨rfl, h1, h2, h3, h4⟩ := hc
          simp only [Option.map_eq_some_iff] at he
          obtain ⟨xs, ho, rfl⟩ := he
          have hcx := cells_of_pv hx h2
          obtain ⟨K', B', hR, hK, hdl, hdr, hext⟩ := sound_asDs_cells h hcx hds
          have ha' : RepPV w K' m1 G (.l (.oat r' n' i j)) va := RepPV.mono ha hK (fun _ _ => rfl) hext
          exact Sound.of_mem (m1 := m1) (sound_store_row (st := { st with mem := m1 }) hR ha' hm h3 (getD_get h1) h4 (by rw [hcx.1, hdl]) hdr ho)
        · cases he
      · cases he
    · cases he
  · cases he

theorem arr_one {α : Type} {xs : Array α} (h : xs.size = 1) (d : α) : xs = #[xs.getD 0 d] := by
  apply Array.ext
  · simp [h]
  · intro i h1 h2
    have : i = 0 := by simp at h2; omega
    subst this
    simp [Array.getD, h]

theorem arr_two {α : Type} {xs : Array α} (h : xs.size = 2) (d : α) : xs = #[xs.getD 0 d, xs.getD 1 d] := by
  apply Array.ext
  · simp [h]
  · intro i h1 h2
    have : i = 0 ∨ i = 1 := by simp at h2; omega
    rcases this with rfl | rfl <;> simp [Array.getD, h]

theorem map_two {α β : Type} (f : α → β) (x y : α) : Array.map f #[x, y] = #[f x, f y] := by simp

theorem arr_get {args : Array Operand} (h : 0 < args.size) : (args.map a.eval)[0]? = some (a.eval (args.getD 0 (.const undef))) := by
  simp [h, Array.getD]

theorem arr_ts {ts : Array TypeId} (h : 0 < ts.size) : ts[0]? = some (ts.getD 0 0) := by
  simp [h, Array.getD]

theorem eff_sound {o : Oper} {r : PV × Mem} (h : Rel1 cx st a w K G B) (he : eff P o st = some r) : Sound P cx st a w (execOp a.eval o) r := by
  obtain ⟨dst, op, ty, pos, after, guard⟩ := o
  unfold eff at he
  split at he
  · rename_i x hop
    simp only at hop; subst hop
    cases he
    exact ⟨_, w, K, G, B, rfl, h, .inl ⟨_, rfl, rep_ev h x⟩⟩
  · rename_i x hop
    simp only at hop; subst hop
    cases he
    exact ⟨_, w, K, G, B, rfl, h, .inl ⟨_, rfl, rep_ev h x⟩⟩
  · rename_i hop
    simp only at hop; subst hop
    exact sound_pick h (rep_ev h _) (rep_ev h _) (rep_ev h _) he
  · rename_i hop
    simp only at hop; subst hop
    exact sound_bin h (rep_ev h _) (rep_ev h _) he
  · rename_i hop
    simp only at hop; subst hop
    exact sound_un h (rep_ev h _) he
  · rename_i hop
    simp only at hop; subst hop
    exact sound_load h (rep_ev h _) he
  · rename_i hop
    simp only at hop; subst hop
    exact sound_store h (rep_ev h _) (rep_ev h _) he
  · rename_i t hop
    simp only at hop; subst hop
    split at he
    · rename_i ls hls
      obtain ⟨i, z, h1, h2, rfl, h3⟩ := zeroT_spec hls
      refine sound_new (cs := z.cells.toList) (T := t) h ?_ (cells_zero h3) he
      simp [Instr.alloc, Sem.run_bind, zeroValue, typeInfo, h1, h2, newVar, newRow]
    · cases he
  · rename_i t x hop
    simp only at hop; subst hop
    split at he
    · rename_i hg
      refine sound_new (cs := (a.eval x).cells.toList) (T := t) h ?_ (cells_of_pv (rep_ev h x) hg) he
      simp [Instr.box, Sem.run_bind, newVar, newRow]
    · cases he
  · rename_i hop
    simp only at hop; subst hop
    exact sound_build h he
  · rename_i hop
    simp only at hop; subst hop
    exact sound_buildSlice h he
  · rename_i hop
    simp only at hop; subst hop
    exact sound_makeSlice h (rep_ev h _) (rep_ev h _) he
  · rename_i hop
    simp only at hop; subst hop
    exact sound_indexAddr h (rep_ev h _) (rep_ev h _) he
  · rename_i hop
    simp only at hop; subst hop
    exact sound_fieldAddr h (rep_ev h _) he
  · rename_i hop
    simp only at hop; subst hop
    exact sound_field h (rep_ev h _) he
  · rename_i hop
    simp only at hop; subst hop
    exact sound_slice h he
  · rename_i hop
    simp only at hop; subst hop
    exact sound_index h (rep_ev h _) (rep_ev h _) he
  · rename_i hop
    simp only at hop; subst hop
    exact sound_convert h (rep_ev h _) he
  · rename_i hop
    simp only at hop; subst hop
    exact sound_makeFunc h he
  · rename_i hop
    simp only at hop; subst hop
    exact sound_extract h (rep_ev h _) he
  · rename_i args ts hop
    simp only at hop; subst hop
    split at he
    · rename_i hc
      exact sound_len (args := args.map a.eval) (ts := ts) (ty := ty) h (rep_ev h _) (arr_get (by omega)) (arr_ts (by omega)) he
    · cases he
  · rename_i args ts hop
    simp only at hop; subst hop
    split at he
    · rename_i hc
      have := sound_append (ty := ty) h (rep_ev h _) (rep_ev h _) he
      rw [arr_two hc.1 (.const undef), arr_two hc.2 0]
      show Sound P cx st a w (valS (Builtin.append_ _ ty (Array.map a.eval _))) r
      rw [map_two]
      exact this
    · cases he
  · rename_i args ts hop
    simp only at hop; subst hop
    split at he
    · rename_i hc
      have := sound_minmax (P := P) (ty := ty) (ts := ts) h (rep_ev h _) (rep_ev h _) he
      rw [arr_two hc (.const undef)]
      show Sound P cx st a w (valS (Builtin.min_ _ ty (Array.map a.eval _))) r
      rw [map_two]
      exact this
    · cases he
  · rename_i args ts hop
    simp only at hop; subst hop
    split at he
    · rename_i hc
      have := sound_minmax (P := P) (ty := ty) (ts := ts) h (rep_ev h _) (rep_ev h _) he
      rw [arr_two hc (.const undef)]
      show Sound P cx st a w (valS (Builtin.max_ _ ty (Array.map a.eval _))) r
      rw [map_two]
      exact this
    · cases he
  · cases he

end Go.Proofs.Ytfnplmglpbihhaa.Vm
