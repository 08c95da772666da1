/- One operation, and a region, of the model against the abstract machine. -/
import Derived.Test.YtfnplmglpbihhaaVmI
import Derived.RangeFuncCalls
namespace Go.Proofs.Ytfnplmglpbihhaa.Vm
open Go Go.RowKit
set_option linter.unusedVariables false
set_option linter.unusedSimpArgs false

variable {P : Program} {cx : Cx} {st : St} {a : Act} {w w' : World} {K K' : Nat → Prop} {G G' : Id → Value} {B B' : Id → Option Nat} {m m' : Mem} {L L' : List Nat}

def okDst (st : St) : Option Tmp → Bool
  | none => true
  | some d => decide (d < st.n)

theorem Rel1.put (h : Rel1 cx st a w K G B) {x : PV} {v : Value} {d : Option Tmp} (hx : RepPV w K st.mem G x v) (hd : okDst st d = true) : Rel1 cx (st.put d x) (a.put d v) w K G B := by
  cases d with
  | none => exact h
  | some d =>
    have hdn : d < a.tmps.size := by rw [h.len]; simpa [okDst] using hd
    exact {
      slots := fun t => by
        show RepPV w K st.mem G (if t = d then x else st.slot t) ((a.tmps.setIfInBounds d v).getD t undef)
        by_cases ht : t = d
        · subst ht
          rw [if_pos rfl]
          have : (a.tmps.setIfInBounds t v).getD t undef = v := by
            simp [Array.getD, hdn]
          rw [this]
          exact hx
        · rw [if_neg ht]
          have : (a.tmps.setIfInBounds d v).getD t undef = a.tmps.getD t undef := by
            rw [Array.getD_eq_getD_getElem?, Array.getD_eq_getD_getElem?, Array.getElem?_setIfInBounds_ne (fun e => ht e.symm)]
          rw [this]
          exact h.slots t
      len := by show (a.tmps.setIfInBounds d v).size = st.n; rw [Array.size_setIfInBounds]; exact h.len
      defers := h.defers
      os := h.os
      tape := h.tape
      output := h.output
      size := h.size
      frame := h.frame
      kept := h.kept
      keptLt := h.keptLt
      keptIn := h.keptIn
      ents := h.ents
      dead := h.dead
      inj := h.inj
      mine := h.mine
      pins := h.pins }

theorem Rel1.drew (h : Rel1 cx st a w K G B) (n : Nat) : Rel1 cx st a { w with drawn := n } K G B := by
  have hs : SameOn K w { w with drawn := n } := fun _ _ => rfl
  exact {
    slots := fun t => (h.slots t).mono (fun _ hb => hb) hs (.refl _ _)
    len := h.len
    defers := h.defers
    os := h.os
    tape := h.tape
    output := h.output
    size := h.size
    frame := h.frame
    kept := h.kept
    keptLt := h.keptLt
    keptIn := h.keptIn
    ents := fun id => (h.ents id).mono (fun _ hb => hb) hs (.refl _ _) rfl rfl (fun _ _ => rfl)
    dead := h.dead
    inj := h.inj
    mine := h.mine
    pins := h.pins }

/-- A call: the state without what was handed over, behind it. -/
theorem RelL.call {bs bs' : List Nat} {K2 : Nat → Prop} (h : RelL cx st a w K G B bs) (hn : bs'.Nodup) (hb : ∀ b ∈ bs', ¬ K2 b ∧ b < w'.heap.size ∧ (b ∈ bs ∨ w.heap.size ≤ b)) (hK : ∀ b, K b → K2 b)
    (hK2 : ∀ b, K2 b → b < w'.heap.size ∧ (K b ∨ b ∈ bs ∨ w.heap.size ≤ b)) (ho : w'.os = w.os) (ht : w'.tape = w.tape) (hu : w'.output = w.output) (hs : w.heap.size ≤ w'.heap.size)
    (hf : ∀ b, b < w.heap.size → b ∉ bs → w'.heap[b]? = w.heap[b]?) : RelL cx st a w' K2 G B bs' := by
  obtain ⟨hr, hl1, hl2⟩ := h
  have hsame : SameOn K w w' := fun b hk => hf b (hr.keptLt b hk) (fun hm => (hl2 b hm).1 hk)
  have hmine : ∀ id b, B id = some b → b ∉ bs := fun id b hid hm => (hl2 b hm).2.2.2 id hid
  refine ⟨?_, hn, fun b hbm => ?_⟩
  · exact {
      slots := fun t => (hr.slots t).mono hK hsame (.refl _ _)
      len := hr.len
      defers := hr.defers
      os := ho.trans hr.os
      tape := ht.trans hr.tape
      output := hu.trans hr.output
      size := Nat.le_trans hr.size hs
      frame := fun b hb1 hb2 => (hf b (Nat.lt_of_lt_of_le hb1 hr.size) (fun hm => by
        rcases (hl2 b hm).2.2.1 with k | k
        · omega
        · exact hb2 k)).trans (hr.frame b hb1 hb2)
      kept := fun b hb => hK b (hr.kept b hb)
      keptLt := fun b hb => (hK2 b hb).1
      keptIn := fun b hb => by
        rcases (hK2 b hb).2 with q | q | q
        · exact hr.keptIn b q
        · exact .inr (hl2 b q).2.2.1.symm
        · exact .inr (.inr (Nat.le_trans hr.size q))
      ents := fun id => (hr.ents id).mono hK hsame (.refl _ _) rfl rfl (fun b hb => hf b (hr.mine id b hb).2.1 (hmine id b hb))
      dead := hr.dead
      inj := hr.inj
      mine := fun id b hid => by
        obtain ⟨k1, k2, k3⟩ := hr.mine id b hid
        refine ⟨fun hk => ?_, Nat.lt_of_lt_of_le k2 hs, k3⟩
        rcases (hK2 b hk).2 with q | q | q
        · exact k1 q
        · exact hmine id b hid q
        · omega
      pins := hr.pins }
  · obtain ⟨k1, k2, k3⟩ := hb b hbm
    refine ⟨k1, k2, ?_, fun id hid => ?_⟩
    · rcases k3 with k | k
      · exact (hl2 b k).2.2.1
      · exact .inl (Nat.le_trans hr.size k)
    · rcases k3 with k | k
      · exact hmine id b hid k
      · have := (hr.mine id b hid).2.1; omega

theorem RelL.forget (h : RelL cx st a w K G B L) : Rel1 cx st a w K G B := h.rel

def Wide (F : Fence) : Prop := F = Fence.wide ∨ ∃ l, F = Fence.wide.inRound l

theorem Wide.fn {F : Fence} (h : Wide F) (f : FuncId) : F.fn f := by
  rcases h with rfl | ⟨l, rfl⟩ <;> trivial

theorem Wide.depth {F : Fence} (h : Wide F) : F.depth = none := by
  rcases h with rfl | ⟨l, rfl⟩ <;> rfl

theorem Wide.calls {F : Fence} (h : Wide F) {n : Nat} {f : FuncId} {args : Array Value} {R : Ending → World → Prop} (hc : Calls P f args w R) : CallsIn F n P f args w R := by
  rcases h with rfl | ⟨l, rfl⟩
  · exact callsIn_wide.2 hc
  · exact CallsIn.inRound l (callsIn_wide.2 hc)

def callP (P : Program) (f : FuncId) : Bool :=
  match P.funcs[f]? with
  | some fn => fn.name != "runtime.NumGoroutine" && fn.body.isSome
  | none => false

theorem run_callFunc {f : FuncId} (h : callP P f = true) (args : Array Value) : (callFunc f args).run P w = .ok (.enter f args) w := by
  unfold callP at h
  split at h
  · rename_i fn hf
    simp only [Bool.and_eq_true] at h
    have h1 : (fn.name == "runtime.NumGoroutine") = false := by simpa using h.1
    have h2 : fn.body.isNone = false := by
      have := h.2
      cases hb : fn.body <;> simp_all
    have h1' : ¬ fn.name = "runtime.NumGoroutine" := by simpa using h1
    have h2' : ¬ fn.body = none := by rintro e; rw [e] at h2; cases h2
    simp [callFunc, Sem.run_bind, hf, h1', h2']
  · cases h

/-- What a call hands back, in the caller's slots. -/
def bindRes (P : Program) (m : Mem) (d : Option Tmp) (rs : List AV) : PV × Mem :=
  match d, rs with
  | none, _ => (.l .any, m)
  | some t, [r] => fromAV P m [t, 0] r
  | some t, rs => (.tup (fromAVs P m [t] [] 0 rs).1, (fromAVs P m [t] [] 0 rs).2)

def capPVs (caps : List (Id × Nat)) : List PV := caps.map fun c => .l (.ptr c.1 c.2 0)

/-- A call of a Go function, by its contract. -/
def vcall (P : Program) (o : Oper) (k : St → Prop) (st : St) : Prop :=
  ∃ fo args ts f caps mds avs m1 rs outs m2, o.op = .call { callee := .value fo, args := args, argTypes := ts } ∧ st.ev fo = .l (.clo f caps) ∧ callP P f = true ∧
    toAVs P st.mem mds (args.toList.map st.ev ++ capPVs caps) = some (avs, m1) ∧ VFun P f avs rs outs ∧ backs P m1 (cellsMds mds (args.toList.map st.ev ++ capPVs caps)) outs = some m2 ∧
    okDst st o.dst = true ∧ k (({ st with mem := (bindRes P m2 o.dst rs).2 } : St).put o.dst (bindRes P m2 o.dst rs).1)

theorem RepL.one_inv {R : AV → Value → List Nat → Prop} {r : AV} {vs : List Value} {bs : List Nat} (h : RepL R [r] vs bs) : ∃ v, vs = [v] ∧ R r v bs := by
  cases h with
  | cons h1 h2 =>
    cases h2
    exact ⟨_, rfl, by simpa using h1⟩

theorem bindRes_sound {rs : List AV} {rv : List Value} {bs : List Nat} {d : Option Tmp} (h : RelL cx st a w K G B bs) (hr : RepL (AVRep P w K) rs rv bs) (hd : okDst st d = true) :
    Rel cx (({ st with mem := (bindRes P st.mem d rs).2 } : St).put d (bindRes P st.mem d rs).1) (a.put d (resVal rv)) w := by
  cases d with
  | none => exact ⟨K, G, B, h.rel⟩
  | some t =>
    have many : rs.length ≠ 1 → bindRes P st.mem (some t) rs = (.tup (fromAVs P st.mem [t] [] 0 rs).1, (fromAVs P st.mem [t] [] 0 rs).2) := by
      intro hn
      cases rs with
      | nil => rfl
      | cons r rs => cases rs with
        | nil => simp at hn
        | cons _ _ => rfl
    by_cases h1 : rs.length = 1
    · obtain ⟨r, rfl⟩ : ∃ r, rs = [r] := by
        cases rs with
        | nil => simp at h1
        | cons r rs => cases rs with
          | nil => exact ⟨r, rfl⟩
          | cons _ _ => simp at h1
      obtain ⟨v, rfl, hv⟩ := hr.one_inv
      obtain ⟨G', B', hR, hp, _⟩ := fromAV_sound (L := []) [t, 0] (by simpa using h) hv
      exact ⟨K, G', B', hR.rel.put (RepPV.one hp) hd⟩
    · rw [many h1]
      obtain ⟨G', B', hR, ⟨hl, hp⟩, _⟩ := fromAVs_sound (L := []) rs [t] [] 0 (by simpa using h) hr
      have hres : resVal rv = .tuple rv.toArray := by
        have : rv.length ≠ 1 := by rw [hr.len]; exact h1
        unfold resVal
        split
        · simp at this
        · rfl
      rw [hres]
      refine ⟨K, G', B', hR.rel.put (x := .tup (fromAVs P st.mem [t] [] 0 rs).1) ⟨rv.toArray, rfl, by simpa using hl, fun i x hx => ?_⟩ hd⟩
      obtain ⟨u, q1, q2⟩ := hp i x hx
      exact ⟨u, by simpa using q1, q2⟩

theorem cells_le : ∀ (mds : List Md) (xs : List PV), (∀ (i : Nat) x, xs[i]? = some x → ∃ u, RepPV w K m G x u) → ∀ c n, (c, n) ∈ cellsMds mds xs → n ≤ (m c).1
  | [], _, _, c, n, h => by simp [cellsMds] at h
  | _ :: _, [], _, c, n, h => by simp [cellsMds] at h
  | md :: mds, x :: xs, hx, c, n, h => by
    simp only [cellsMds, List.mem_append] at h
    rcases h with h | h
    · obtain ⟨u, hu⟩ := hx 0 x rfl
      have h' : (c, n) ∈ cellsOf x := by cases md <;> simp [cellsMd] at h <;> exact h
      cases x with
      | l x =>
        cases x with
        | ptr c' n' off =>
          simp [cellsOf] at h'
          obtain ⟨rfl, rfl⟩ := h'
          exact hu.2.1
        | clo f caps =>
          obtain ⟨_, vs, _, _, hc⟩ := hu
          obtain ⟨i, hi⟩ := List.getElem?_of_mem (show (c, n) ∈ caps from h')
          exact (hc i c n hi).1
        | _ => simp [cellsOf] at h'
      | agg xs => simp [cellsOf] at h'
      | tup xs => simp [cellsOf] at h'
    · exact cells_le mds xs (fun i x h => hx (i + 1) x (by simpa using h)) c n h

theorem Ext.le (h : Ext m G m' G') {c : Id} {n : Nat} (hn : n ≤ (m c).1) : n ≤ (m' c).1 := by
  rcases h c with ⟨e, _⟩ | e <;> omega

theorem vcall_sound {F : Fence} {n : Nat} {o : Oper} {k : St → Prop} {Q : Exit → Act → World → Prop} (hF : Wide F) (h : Rel cx st a w) (hc : vcall P o k st) :
    o.wpIn F n P a w (fun a' w' => ∃ st', Rel cx st' a' w' ∧ k st') Q := by
  obtain ⟨K, G, B, h⟩ := h
  obtain ⟨fo, args, ts, f, caps, mds, avs, m1, rs, outs, m2, hop, hev, hcp, hto, hfun, hbk, hd, hk⟩ := hc
  obtain ⟨dst, op, ty, pos, after, guard⟩ := o
  simp only at hop
  subst hop
  refine ⟨fun f _ => hF.fn f, ?_⟩
  rw [Oper.semAt_eq _ _ _ (by simp)]
  -- the function and what it captured
  have hfv := rep_ev h fo
  rw [hev] at hfv
  obtain ⟨_, cvs, hfv, hcl, hcap⟩ := hfv
  -- the arguments' values
  have hvals : ∀ (i : Nat) x, (args.toList.map st.ev ++ capPVs caps)[i]? = some x → ∃ u, (args.toList.map a.eval ++ cvs.toList)[i]? = some u ∧ RepPV w K st.mem G x u := by
    intro i x hx
    by_cases hi : i < args.toList.length
    · rw [List.getElem?_append_left (by simpa using hi), List.getElem?_map, Option.map_eq_some_iff] at hx
      obtain ⟨o, ho, rfl⟩ := hx
      exact ⟨a.eval o, by rw [List.getElem?_append_left (by simpa using hi), List.getElem?_map, ho]; rfl, rep_ev h o⟩
    · rw [List.getElem?_append_right (by simp at hi ⊢; omega)] at hx
      simp only [capPVs, List.getElem?_map, Option.map_eq_some_iff, List.length_map] at hx
      obtain ⟨⟨c, nn⟩, hc, rfl⟩ := hx
      have hlt : i - args.toList.length < cvs.size := by rw [hcl]; exact (List.getElem?_eq_some_iff.1 hc).1
      obtain ⟨q1, b, q2, q3⟩ := hcap _ c nn hc
      refine ⟨cvs[i - args.toList.length], ?_, ?_⟩
      · rw [List.getElem?_append_right (by simp at hi ⊢; omega)]
        simp only [List.length_map]
        rw [Array.getElem?_toList, Array.getElem?_eq_getElem hlt]
      · rw [show cvs[i - args.toList.length] = .pointer (some ⟨b, 0, none⟩) from by
          rw [Array.getElem?_eq_getElem hlt] at q2
          exact Option.some.inj q2]
        exact ⟨rfl, q1, b, rfl, q3⟩
  obtain ⟨⟨K1, B1, bl, hR, hK1, hrep, hext⟩, hptrs⟩ := toAVs_sound mds _ (RelL.of h) (us := args.toList.map a.eval ++ cvs.toList) (by simp [capPVs, hcl]) hvals hto
  simp only [List.append_nil] at hR
  have hcalls := hfun w K1 _ bl hrep hR.loose.1 (fun b hb => ⟨(hR.loose.2 b hb).1, (hR.loose.2 b hb).2.1⟩) hR.rel.keptLt
  have hrun : (execOp a.eval { dst := dst, op := .call { callee := .value fo, args := args, argTypes := ts }, type := ty, pos := pos, after := after, guard := guard }).run P w = .ok (.enter f (args.toList.map a.eval ++ cvs.toList).toArray) w := by
    have e : (args.toList.map a.eval ++ cvs.toList).toArray = args.map a.eval ++ cvs := by
      apply Array.ext'
      simp
    rw [e]
    simp only [execOp, resolve, Sem.run_bind, Deferred.ofValue, hfv, Sem.run_pure, Result.andThen_ok, invoke]
    simpa using run_callFunc (w := w) hcp (args.map a.eval ++ cvs)
  rw [hrun, Oper.uponIn_enter]
  refine ⟨by rw [hF.depth]; simp, hF.calls (hcalls.mono ?_)⟩
  rintro e w' ⟨K2, rv, bs1, bs2, rfl, hr1, hr2, hn, hb, hk1, hk2, ho, htp, hou, hsz, hfr⟩
  have hR2 := hR.call hn hb hk1 hk2 ho htp hou hsz hfr
  rw [hptrs] at hr2
  have hcs : ∀ (i : Nat) c nn, (cellsMds mds (args.toList.map st.ev ++ capPVs caps))[i]? = some (c, nn) → ∃ v, ((cellsMds mds (args.toList.map st.ev ++ capPVs caps)).map fun c => G c.1)[i]? = some v ∧ ((m1 c).1 = nn → G c = v) ∧ nn ≤ (m1 c).1 := fun i c nn hi =>
    ⟨G c, by rw [List.getElem?_map, hi]; rfl, fun _ => rfl, hext.le (cells_le mds _ (fun i x hx => let ⟨u, _, hu⟩ := hvals i x hx; ⟨u, hu⟩) c nn (List.mem_of_getElem? hi))⟩
  obtain ⟨G3, B3, hR3, _, hext3⟩ := backs_sound (L := bs1) _ outs (hR2.perm List.perm_append_comm) hr2 hcs hbk
  have hR4 : Rel cx (({ st with mem := (bindRes P m2 dst rs).2 } : St).put dst (bindRes P m2 dst rs).1) (a.put dst (resVal rv)) w' :=
    bindRes_sound (st := { st with mem := m2 }) hR3 hr1 hd
  exact ⟨_, hR4, hk⟩

end Go.Proofs.Ytfnplmglpbihhaa.Vm
