/- Regions that draw their order: the text's order tells for all. -/
import Derived.Test.YtfnplmglpbihhaaVmS
namespace Go.Proofs.Ytfnplmglpbihhaa.Vm
open Go Go.RowKit
set_option linter.unusedVariables false
set_option linter.unusedSimpArgs false

variable {P : Program} {cx : Cx} {st st2 : St} {a : Act} {w w' : World} {m m' : Mem} {ops : Array Oper} {o : Oper}

instance : Inhabited Ent := ⟨.none⟩

/-! ### An operation looks at its operands alone -/

theorem eff_congr (hm : st2.mem = st.mem) (h : ∀ x ∈ o.op.operands, st2.ev x = st.ev x) : eff P o st2 = eff P o st := by
  obtain ⟨d, op, ty, pos, aft, g⟩ := o
  simp only at h
  cases op with
  | move x => simp only [eff_move]; rw [hm, h x (by simp [Op.operands])]
  | assign x => simp only [eff_assign]; rw [hm, h x (by simp [Op.operands])]
  | pick c x y => simp only [eff_pick]; rw [h c (by simp [Op.operands]), h x (by simp [Op.operands]), h y (by simp [Op.operands])]; simp only [effPick, hm]
  | binOp op xt x y yt => simp only [eff_bin]; rw [hm, h x (by simp [Op.operands]), h y (by simp [Op.operands])]
  | unOp op t x => simp only [eff_un]; rw [hm, h x (by simp [Op.operands])]
  | load t x => simp only [eff_load]; rw [hm, h x (by simp [Op.operands])]
  | store t x y => simp only [eff_store]; rw [hm, h x (by simp [Op.operands]), h y (by simp [Op.operands])]
  | alloc t => simp only [eff_alloc]; rw [hm]
  | box t x => simp only [eff_box]; rw [hm, h x (by simp [Op.operands])]
  | build t ps =>
    simp only [eff_build]
    rw [hm]
    congr 1
    exact List.map_congr_left fun p hp => by
      rw [h p.2 (by simp only [Op.operands]; exact (by simpa using ⟨p.1, by simpa using hp⟩))]
  | buildSlice t n ps =>
    simp only [eff_buildSlice]
    rw [hm]
    congr 1
    exact List.map_congr_left fun p hp => by
      rw [h p.2 (by simp only [Op.operands]; exact (by simpa using ⟨p.1, by simpa using hp⟩))]
  | makeSlice t x y => simp only [eff_makeSlice]; rw [hm, h x (by simp [Op.operands]), h y (by simp [Op.operands])]
  | indexAddr t x y => simp only [eff_indexAddr]; rw [hm, h x (by simp [Op.operands]), h y (by simp [Op.operands])]
  | fieldAddr t x i => simp only [eff_fieldAddr]; rw [hm, h x (by simp [Op.operands])]
  | field t x i => simp only [eff_field]; rw [hm, h x (by simp [Op.operands])]
  | slice t x lo hi mx =>
    simp only [eff_slice]
    rw [hm, h x (by simp [Op.operands])]
    have e1 : lo.map st2.ev = lo.map st.ev := by cases lo with | none => rfl | some y => simp [h y (by simp [Op.operands])]
    have e2 : hi.map st2.ev = hi.map st.ev := by cases hi with | none => rfl | some y => simp [h y (by simp [Op.operands])]
    have e3 : mx.map st2.ev = mx.map st.ev := by cases mx with | none => rfl | some y => simp [h y (by simp [Op.operands])]
    rw [e1, e2, e3]
  | index t x y => simp only [eff_index]; rw [hm, h x (by simp [Op.operands]), h y (by simp [Op.operands])]
  | convert s t x => simp only [eff_convert]; rw [hm, h x (by simp [Op.operands])]
  | makeFunc fn fs cs =>
    simp only [eff_makeFunc]
    rw [hm]
    congr 1
    · exact List.map_congr_left fun p hp => h p (by simp [Op.operands]; exact .inl (by simpa using hp))
    · exact List.map_congr_left fun p hp => h p (by simp [Op.operands]; exact .inr (by simpa using hp))
  | extract x i => simp only [eff_extract]; rw [hm, h x (by simp [Op.operands])]
  | call c =>
    obtain ⟨callee, args, ts⟩ := c
    have ha : ∀ x ∈ args, st2.ev x = st.ev x := fun x hx => h x (by simp only [Op.operands, Call.operands]; cases callee <;> simp [hx])
    have g : ∀ i, i < args.size → st2.ev (args.getD i (.const undef)) = st.ev (args.getD i (.const undef)) := fun i hi => by
      have : args.getD i (.const undef) = args[i] := by simp [Array.getD, hi]
      rw [this]
      exact ha _ (Array.getElem_mem hi)
    cases callee with
    | builtin b =>
      cases b with
      | len => simp only [eff]; split; · rename_i hs; rw [hm, g 0 (by omega)]
               · rfl
      | append => simp only [eff]; split; · rename_i hs; rw [hm, g 0 (by omega), g 1 (by omega)]
                  · rfl
      | min => simp only [eff]; split; · rename_i hs; rw [hm, g 0 (by omega), g 1 (by omega)]
               · rfl
      | max => simp only [eff]; split; · rename_i hs; rw [hm, g 0 (by omega), g 1 (by omega)]
               · rfl
      | _ => rfl
    | _ => rfl
  | _ => rfl

theorem vcall_local {k : St → Prop} (h : vcall P o k st) : ∃ v m', k ((st.setm m').put o.dst v) ∧ ∀ st2, st2.n = st.n → st2.mem = st.mem → (∀ x ∈ o.op.operands, st2.ev x = st.ev x) →
    ∀ k2 : St → Prop, k2 ((st2.setm m').put o.dst v) → vcall P o k2 st2 := by
  obtain ⟨fo, args, ts, f, caps, mds, avs, m1, rs, outs, m2, hop, hf, hc, ha, hV, hb, hd, hk⟩ := h
  refine ⟨_, _, hk, fun st2 hn hm hx k2 hk2 => ?_⟩
  rw [hop] at hx
  have e1 : st2.ev fo = st.ev fo := hx fo (by simp [Op.operands, Call.operands])
  have e2 : args.toList.map st2.ev = args.toList.map st.ev := List.map_congr_left fun x h => hx x (by simp [Op.operands, Call.operands]; exact .inr (by simpa using h))
  refine ⟨fo, args, ts, f, caps, mds, avs, m1, rs, outs, m2, hop, e1.trans hf, hc, by rw [hm, e2]; exact ha, hV, by rw [e2]; exact hb, ?_, hk2⟩
  cases h : o.dst with
  | none => rfl
  | some t =>
    rw [h] at hd
    simp only [okDst_some, hn]
    simpa using hd

/-! ### One step, in the text's order -/

/-- A memory that is known at some places alone. -/
def over (kp : List Id) (m0 m : Mem) : Mem := fun id => if id ∈ kp then m0 id else m id

def sameAt (kp : List Id) (m0 m : Mem) : Prop := ∀ id ∈ kp, m id = m0 id

theorem over_same {kp : List Id} {m0 m : Mem} (h : sameAt kp m0 m) : over kp m0 m = m := by
  funext id
  unfold over
  split
  · rename_i hi; exact (h id hi).symm
  · rfl

def keepk (kp : List Id) (m0 : Mem) (k : St → Prop) (st : St) : Prop := sameAt kp m0 st.mem ∧ k st

def dstep (P : Program) (kp : List Id) (e : Bool) (o : Oper) (k : St → Prop) (st : St) : Prop :=
  match e with
  | true => vstep P o (eff P o st) (keepk kp st.mem k) st
  | false => ∃ v, (∀ m, eff P o (st.setm (over kp st.mem m)) = some (v, over kp st.mem m)) ∧ okDst st o.dst = true ∧ k (st.put o.dst v)

def dgo (P : Program) (ops : Array Oper) (kp : List Id) (e : Bool) (o : Oper) (k : St → Prop) (st : St) : Prop :=
  match o.guard with
  | none => dstep P kp e o k st
  | some (j, b) => match guardVal ops st j with
    | some t => (t = some b → dstep P kp e o k st) ∧ (¬ t = some b → okDst st o.dst = true ∧ k (st.put o.dst (.tup [])))
    | none => False

def vdr (P : Program) (ops : Array Oper) (fl : List Nat) (kp : List Id) (k : St → Prop) : Nat → List Oper → St → Prop
  | _, [], st => k st
  | i, o :: l, st => dgo P ops kp (fl.contains i) o (vdr P ops fl kp k (i + 1) l) st

/-- What one step did, told so that it can be done elsewhere. -/
def Local (P : Program) (ops : Array Oper) (kp : List Id) (e : Bool) (o : Oper) (st : St) (v : PV) (m' : Mem) : Prop :=
  ∀ st2, st2.n = st.n → (∀ t ∈ o.looksAt ops, st2.slot t = st.slot t) → (e = true → st2.mem = st.mem) → sameAt kp st.mem st2.mem → ∀ k : St → Prop, k ((if e then st2.setm m' else st2).put o.dst v) → vgo P ops o k st2

theorem ev_of_looks (h : ∀ t ∈ o.looksAt ops, st2.slot t = st.slot t) : ∀ x ∈ o.op.operands, st2.ev x = st.ev x := by
  intro x hx
  cases x with
  | tmp t => exact h t (List.mem_append_left _ (List.mem_filterMap.2 ⟨.tmp t, by simpa using hx, rfl⟩))
  | _ => rfl

theorem guardVal_congr {j : Nat} {b : Bool} (hg : o.guard = some (j, b)) (hn : st2.n = st.n) (h : ∀ t ∈ o.looksAt ops, st2.slot t = st.slot t) : guardVal ops st2 j = guardVal ops st j := by
  unfold guardVal
  cases hd : (ops[j]?).bind (·.dst) with
  | none => rfl
  | some d =>
    have : st2.slot d = st.slot d := h d (List.mem_append_right _ (by simp [hg, hd]))
    simp only [this, hn]

theorem okDst_n {d : Option Tmp} (hn : st2.n = st.n) (h : okDst st d = true) : okDst st2 d = true := by
  cases d with
  | none => rfl
  | some t => simp only [okDst_some, hn] at h ⊢; exact h

theorem dstep_local {kp : List Id} {e : Bool} {k : St → Prop} (hs : dstep P kp e o k st) : ∃ v m', (k ((if e then st.setm m' else st).put o.dst v) ∧ (e = true → sameAt kp st.mem m')) ∧
    ∀ st2, st2.n = st.n → (∀ t ∈ o.looksAt ops, st2.slot t = st.slot t) → (e = true → st2.mem = st.mem) → sameAt kp st.mem st2.mem → ∀ k2 : St → Prop, k2 ((if e then st2.setm m' else st2).put o.dst v) → vstep P o (eff P o st2) k2 st2 := by
  cases e with
  | true =>
    simp only [dstep] at hs
    cases he : eff P o st with
    | none =>
      rw [he] at hs
      obtain ⟨v, m', ⟨h0, h1⟩, h2⟩ := vcall_local hs
      refine ⟨v, m', ⟨h1, fun _ => by simpa using h0⟩, fun st2 hn hl hm _ k2 hk => ?_⟩
      rw [eff_congr (hm rfl) (ev_of_looks hl), he]
      exact h2 st2 hn (hm rfl) (ev_of_looks hl) k2 hk
    | some r =>
      obtain ⟨v, m'⟩ := r
      rw [he] at hs
      refine ⟨v, m', ⟨hs.2.2, fun _ => by have := hs.2.1; simpa using this⟩, fun st2 hn hl hm _ k2 hk => ?_⟩
      rw [eff_congr (hm rfl) (ev_of_looks hl), he]
      exact ⟨okDst_n hn hs.1, hk⟩
  | false =>
    obtain ⟨v, h1, h2, h3⟩ := hs
    refine ⟨v, st.mem, ⟨h3, fun h => by cases h⟩, fun st2 hn hl _ hsa k2 hk => ?_⟩
    have : eff P o st2 = eff P o (st.setm (over kp st.mem st2.mem)) := eff_congr (over_same hsa).symm (by
      intro x hx
      exact (ev_of_looks hl x hx).trans (by cases x <;> rfl))
    rw [this, h1, over_same hsa]
    exact ⟨okDst_n hn h2, by simpa using hk⟩

theorem dgo_local {kp : List Id} {e : Bool} {k : St → Prop} (hs : dgo P ops kp e o k st) : ∃ v m', (k ((if e then st.setm m' else st).put o.dst v) ∧ (e = true → sameAt kp st.mem m')) ∧ Local P ops kp e o st v m' := by
  unfold dgo at hs
  split at hs
  · rename_i hg
    obtain ⟨v, m', h1, h2⟩ := dstep_local (ops := ops) hs
    refine ⟨v, m', h1, fun st2 hn hl hm hsa k2 hk => ?_⟩
    unfold vgo
    rw [hg]
    exact h2 st2 hn hl hm hsa k2 hk
  · rename_i j b hg
    split at hs
    · rename_i t ht
      by_cases htb : t = some b
      · obtain ⟨v, m', h1, h2⟩ := dstep_local (ops := ops) (hs.1 htb)
        refine ⟨v, m', h1, fun st2 hn hl hm hsa k2 hk => ?_⟩
        unfold vgo
        rw [hg]
        simp only [guardVal_congr hg hn hl, ht]
        exact ⟨fun _ => h2 st2 hn hl hm hsa k2 hk, fun h => absurd htb h⟩
      · obtain ⟨h1, h2⟩ := hs.2 htb
        refine ⟨.tup [], st.mem, ⟨?_, fun _ _ _ => rfl⟩, fun st2 hn hl hm _ k2 hk => ?_⟩
        · cases e <;> simpa using h2
        · unfold vgo
          rw [hg]
          simp only [guardVal_congr hg hn hl, ht]
          refine ⟨fun h => absurd h htb, fun _ => ⟨okDst_n hn h1, ?_⟩⟩
          cases e with
          | false => simpa using hk
          | true =>
            have e2 := hm rfl
            simp only [if_true] at hk
            rw [← e2] at hk
            simpa using hk
    · exact hs.elim

theorem vdr_run {fl : List Nat} {kp : List Id} {k : St → Prop} : ∀ (l : List Oper) (i : Nat) (st : St), vdr P ops fl kp k i l st → ∃ ss : Nat → St, ss 0 = st ∧ k (ss l.length) ∧
    ∀ (j : Nat) o, l[j]? = some o → ∃ v m', Local P ops kp (fl.contains (i + j)) o (ss j) v m' ∧ ss (j + 1) = (if fl.contains (i + j) then (ss j).setm m' else ss j).put o.dst v ∧ (fl.contains (i + j) = true → sameAt kp (ss j).mem m')
  | [], i, st, h => ⟨fun _ => st, rfl, h, fun j o ho => by simp at ho⟩
  | o :: l, i, st, h => by
    obtain ⟨v, m', ⟨h1, h1'⟩, h2⟩ := dgo_local h
    obtain ⟨ss, q1, q2, q3⟩ := vdr_run l (i + 1) _ h1
    refine ⟨fun j => match j with | 0 => st | j + 1 => ss j, rfl, q2, fun j o' ho => ?_⟩
    cases j with
    | zero =>
      simp at ho
      subst ho
      exact ⟨v, m', h2, q1, h1'⟩
    | succ j =>
      have := q3 j o' (by simpa using ho)
      rw [show i + 1 + j = i + (j + 1) by omega] at this
      exact this

/-! ### Which orders there are -/

def needsOf (o : Oper) : List Nat := (o.after.toList.filter (fun e => Region.binds .any e)).map (·.on)

def needs (ops : Array Oper) (j : Nat) : List Nat := match ops[j]? with | some o => needsOf o | none => []

def reach (ops : Array Oper) (i : Nat) : Nat → Nat → Bool
  | 0, _ => false
  | fuel + 1, j => (needs ops j).any fun k => k == i || reach ops i fuel k

def dstAt (ops : Array Oper) (i : Nat) : Option Tmp := (ops[i]?).bind (·.dst)
def looksOf (ops : Array Oper) (i : Nat) : List Tmp := match ops[i]? with | some o => o.looksAt ops | none => []

def clash (ops : Array Oper) (fl : List Nat) (i j : Nat) : Bool :=
  (match dstAt ops i with | some d => (looksOf ops j).contains d | none => false) || (match dstAt ops j with | some d => (looksOf ops i).contains d | none => false) || (fl.contains i && fl.contains j)

def drawnOk (ops : Array Oper) (fl : List Nat) : Bool :=
  (List.range ops.size).all fun j => (needs ops j).all (· < j) && (List.range j).all fun i => (!clash ops fl i j || reach ops i ops.size j) && (match dstAt ops i with | some d => dstAt ops j != some d | none => true)

def Closed (ops : Array Oper) (listed : Array Bool) : Prop := ∀ j, listed.getD j false = true → ∀ i ∈ needs ops j, listed.getD i false = true

theorem reach_listed {listed : Array Bool} (hc : Closed ops listed) {i : Nat} : ∀ (fuel j : Nat), reach ops i fuel j = true → (∀ k ∈ needs ops j, listed.getD k false = true) → listed.getD i false = true
  | 0, j, h, _ => by cases h
  | fuel + 1, j, h, hn => by
    simp only [reach, List.any_eq_true] at h
    obtain ⟨k, hk, h⟩ := h
    simp only [Bool.or_eq_true, beq_iff_eq] at h
    rcases h with rfl | h
    · exact hn _ hk
    · exact reach_listed hc fuel k h (hc k (hn k hk))

theorem countP_less {l : List Nat} {p p' : Nat → Bool} (hle : ∀ x ∈ l, p' x = true → p x = true) {i : Nat} (hi : i ∈ l) (h1 : p i = true) (h2 : p' i = false) : l.countP p' < l.countP p := by
  induction l with
  | nil => cases hi
  | cons x l ih =>
    have hmono : l.countP p' ≤ l.countP p := List.countP_mono_left fun y hy => hle y (List.mem_cons_of_mem _ hy)
    rw [List.countP_cons, List.countP_cons]
    rcases List.mem_cons.1 hi with rfl | hi
    · simp [h1, h2]; omega
    · have := ih (fun y hy => hle y (List.mem_cons_of_mem _ hy)) hi
      have hx : (if p' x = true then 1 else 0) ≤ (if p x = true then 1 else 0) := by
        by_cases h : p' x = true
        · simp [h, hle x (List.mem_cons_self ..) h]
        · simp [h]
      omega

def left (n : Nat) (listed : Array Bool) : Nat := (List.range n).countP fun i => !listed.getD i true

theorem getD_any {listed : Array Bool} {i : Nat} (h : i < listed.size) (b c : Bool) : listed.getD i b = listed.getD i c := by simp [Array.getD, h]

theorem set_same {listed : Array Bool} {i : Nat} (h : i < listed.size) (b : Bool) : (listed.setIfInBounds i true).getD i b = true := by
  rw [Array.getD_eq_getD_getElem?, Array.getElem?_setIfInBounds_self_of_lt h]; rfl
theorem set_ne {listed : Array Bool} {i j : Nat} (h : j ≠ i) (b : Bool) : (listed.setIfInBounds i true).getD j b = listed.getD j b := by
  rw [Array.getD_eq_getD_getElem?, Array.getD_eq_getD_getElem?, Array.getElem?_setIfInBounds_ne (Ne.symm h)]

theorem mem_ready {listed : Array Bool} {i : Nat} : i ∈ Region.ready .any ops listed ↔ i < ops.size ∧ listed.getD i true = false ∧ ∀ k ∈ needs ops i, listed.getD k false = true := by
  unfold Region.ready
  rw [List.mem_filter, List.mem_range]
  constructor
  · rintro ⟨h1, h2⟩
    rw [Array.getElem?_eq_getElem h1] at h2
    simp only [Option.map_some, Option.getD_some, Bool.and_eq_true, Bool.not_eq_true', Array.all_eq_true'] at h2
    refine ⟨h1, h2.1, fun k hk => ?_⟩
    unfold needs at hk
    rw [Array.getElem?_eq_getElem h1] at hk
    simp only [needsOf, List.mem_map, List.mem_filter] at hk
    obtain ⟨e, ⟨he1, he2⟩, rfl⟩ := hk
    have := h2.2 e (by simpa using he1)
    simpa [he2] using this
  · rintro ⟨h1, h2, h3⟩
    refine ⟨h1, ?_⟩
    rw [Array.getElem?_eq_getElem h1]
    simp only [Option.map_some, Option.getD_some, Bool.and_eq_true, Bool.not_eq_true', Array.all_eq_true']
    refine ⟨h2, fun e he => ?_⟩
    cases hb : Region.binds .any e with
    | false => rfl
    | true =>
      have := h3 e.on (by
        unfold needs
        rw [Array.getElem?_eq_getElem h1]
        simp only [needsOf, List.mem_map, List.mem_filter]
        exact ⟨e, ⟨by simpa using he, hb⟩, rfl⟩)
      simpa using this

/-! ### Every order comes to what the text's order comes to -/

structure Mid (ops : Array Oper) (fl : List Nat) (kp : List Id) (ss : Nat → St) (listed : Array Bool) (st : St) : Prop where
  n : st.n = (ss 0).n
  done : ∀ j, listed.getD j false = true → ∀ d, dstAt ops j = some d → st.slot d = (ss (j + 1)).slot d
  rest : ∀ t, (∀ j, listed.getD j false = true → dstAt ops j ≠ some t) → st.slot t = (ss 0).slot t
  keep : sameAt kp (ss 0).mem st.mem
  mem : ∀ i, i ≤ ops.size → (∀ j, j < ops.size → fl.contains j = true → (listed.getD j false = true ↔ j < i)) → st.mem = (ss i).mem

theorem drawn_go {F : Fence} {n : Nat} {fl : List Nat} {kp : List Id} {ss : Nat → St} {Q : Exit → St → Prop} (hF : Wide F) (chk : drawnOk ops fl = true)
    (hrun : ∀ (j : Nat) o, ops[j]? = some o → ∃ v m', Local P ops kp (fl.contains j) o (ss j) v m' ∧ ss (j + 1) = (if fl.contains j then (ss j).setm m' else ss j).put o.dst v ∧ (fl.contains j = true → sameAt kp (ss j).mem m'))
    (hQ : Q .normal (ss ops.size)) : ∀ (fuel : Nat) (listed : Array Bool) (a : Act) (w : World) (st : St), listed.size = ops.size → Rel cx st a w → Mid ops fl kp ss listed st → Closed ops listed → left ops.size listed ≤ fuel →
      wpAnyIn F n P .any ops (fun e a' w' => ∃ st', Rel cx st' a' w' ∧ Q e st') fuel listed a w := by
  have chk' : ∀ j, j < ops.size → (∀ k ∈ needs ops j, k < j) ∧ ∀ i, i < j → (clash ops fl i j = true → reach ops i ops.size j = true) ∧ ∀ d, dstAt ops i = some d → dstAt ops j ≠ some d := by
    intro j hj
    unfold drawnOk at chk
    rw [List.all_eq_true] at chk
    have := chk j (List.mem_range.2 hj)
    rw [Bool.and_eq_true, List.all_eq_true, List.all_eq_true] at this
    refine ⟨fun k hk => by simpa using this.1 k hk, fun i hi => ?_⟩
    have h2 := this.2 i (List.mem_range.2 hi)
    rw [Bool.and_eq_true] at h2
    refine ⟨fun hc => by simpa [hc] using h2.1, fun d hd => ?_⟩
    have h3 := h2.2
    rw [hd] at h3
    simpa using h3
  have opAt : ∀ {j}, j < ops.size → ∃ o, ops[j]? = some o := fun hj => ⟨_, Array.getElem?_eq_getElem hj⟩
  have ssn : ∀ i, i ≤ ops.size → (ss i).n = (ss 0).n := by
    intro i
    induction i with
    | zero => intro _; rfl
    | succ i ih =>
      intro hi
      obtain ⟨o, ho⟩ := opAt (show i < ops.size by omega)
      obtain ⟨v, m', _, h2, _⟩ := hrun i o ho
      rw [h2]
      rw [← ih (by omega)]
      split <;> simp
  have slotStep : ∀ i t, i < ops.size → dstAt ops i ≠ some t → (ss (i + 1)).slot t = (ss i).slot t := by
    intro i t hi hne
    obtain ⟨o, ho⟩ := opAt hi
    obtain ⟨v, m', _, h2, _⟩ := hrun i o ho
    rw [h2]
    have hd : o.dst ≠ some t := by simpa [dstAt, ho] using hne
    cases hod : o.dst with
    | none => split <;> rfl
    | some d =>
      rw [hod] at hd
      have : t ≠ d := fun e => hd (by rw [e])
      rw [put_slot, if_neg this]
      split <;> rfl
  have slotSame : ∀ (t i j : Nat), i ≤ j → j ≤ ops.size → (∀ k, i ≤ k → k < j → dstAt ops k ≠ some t) → (ss j).slot t = (ss i).slot t := by
    intro t i j hij
    induction hij with
    | refl => intros; rfl
    | @step j hij ih =>
      intro hj hk
      have hij' : i ≤ j := hij
      rw [slotStep j t (by omega) (hk j hij' (by omega))]
      exact ih (by omega) fun k h1 h2 => hk k h1 (by omega)
  have memSame : ∀ (i j : Nat), i ≤ j → j ≤ ops.size → (∀ k, i ≤ k → k < j → fl.contains k = false) → (ss j).mem = (ss i).mem := by
    intro i j hij
    induction hij with
    | refl => intros; rfl
    | @step j hij ih =>
      intro hj hk
      have hij' : i ≤ j := hij
      obtain ⟨o, ho⟩ := opAt (show j < ops.size by omega)
      obtain ⟨v, m', _, h2, _⟩ := hrun j o ho
      rw [h2, hk j hij' (by omega)]
      simp only [Bool.false_eq_true, if_false, put_mem]
      exact ih (by omega) fun k h1 h2 => hk k h1 (by omega)
  have keepAll : ∀ i, i ≤ ops.size → sameAt kp (ss 0).mem (ss i).mem := by
    intro i
    induction i with
    | zero => intro _ _ _; rfl
    | succ i ih =>
      intro hi
      obtain ⟨o, ho⟩ := opAt (show i < ops.size by omega)
      obtain ⟨v, m', _, h2, h3⟩ := hrun i o ho
      rw [h2, put_mem]
      cases hf : fl.contains i with
      | false => exact ih (by omega)
      | true => exact fun id hid => (h3 hf id hid).trans (ih (by omega) id hid)
  have fin : ∀ (listed : Array Bool) (a : Act) (w : World) (st : St), listed.size = ops.size → Rel cx st a w → Mid ops fl kp ss listed st → Region.ready .any ops listed = [] → ∃ st', Rel cx st' a w ∧ Q .normal st' := by
    intro listed a w st hsz hr hmid hnil
    have all : ∀ j, j < ops.size → listed.getD j false = true := by
      intro j
      induction j using Nat.strongRecOn with
      | _ j ih =>
        intro hj
        cases hl : listed.getD j false with
        | true => rfl
        | false =>
          have : j ∈ Region.ready .any ops listed := mem_ready.2 ⟨hj, by rw [getD_any (by omega) true false]; exact hl, fun k hk => ih k ((chk' j hj).1 k hk) (by have := (chk' j hj).1 k hk; omega)⟩
          rw [hnil] at this
          cases this
    have : st = ss ops.size := by
      have e1 : st.n = (ss ops.size).n := hmid.n.trans (ssn _ (Nat.le_refl _)).symm
      have e2 : st.mem = (ss ops.size).mem := hmid.mem _ (Nat.le_refl _) fun j hj _ => ⟨fun _ => hj, fun _ => all j hj⟩
      have e3 : st.slot = (ss ops.size).slot := by
        funext t
        by_cases hx : ∃ j, j < ops.size ∧ dstAt ops j = some t
        · obtain ⟨j, hj, hd⟩ := hx
          rw [hmid.done j (all j hj) t hd]
          exact (slotSame t (j + 1) ops.size (by omega) (Nat.le_refl _) fun k h1 h2 => (chk' k h2).2 j (by omega) |>.2 t hd).symm
        · have hx' : ∀ j, j < ops.size → dstAt ops j ≠ some t := fun j hj hd => hx ⟨j, hj, hd⟩
          rw [hmid.rest t fun j hl hd => ?_]
          · exact (slotSame t 0 ops.size (Nat.zero_le _) (Nat.le_refl _) fun k _ h2 => hx' k h2).symm
          · by_cases hj : j < ops.size
            · exact hx' j hj hd
            · simp [dstAt, Array.getElem?_eq_none (Nat.not_lt.1 hj)] at hd
      cases st
      cases hs : ss ops.size
      rw [hs] at e1 e2 e3
      simp only at e1 e2 e3
      subst e1 e2 e3
      rfl
    exact ⟨st, hr, by rw [this]; exact hQ⟩
  have step : ∀ (listed : Array Bool) (st : St) (i : Nat), listed.size = ops.size → Mid ops fl kp ss listed st → Closed ops listed → i ∈ Region.ready .any ops listed →
      ∃ o v m', ops[i]? = some o ∧ (∀ k : St → Prop, k ((if fl.contains i then st.setm m' else st).put o.dst v) → vgo P ops o k st) ∧
        Mid ops fl kp ss (listed.setIfInBounds i true) ((if fl.contains i then st.setm m' else st).put o.dst v) ∧ Closed ops (listed.setIfInBounds i true) ∧ left ops.size (listed.setIfInBounds i true) < left ops.size listed := by
    intro listed st i hsz hmid hcl hi
    obtain ⟨hi1, hi2, hi3⟩ := mem_ready.1 hi
    have hil : listed.getD i false = false := by rw [getD_any (by omega) false true]; exact hi2
    obtain ⟨o, ho⟩ := opAt hi1
    obtain ⟨v, m', hloc, hss, hsk⟩ := hrun i o ho
    have hlt : ∀ {j}, listed.getD j false = true → j < ops.size := fun {j} hj => by
      by_cases h : j < ops.size
      · exact h
      · rw [Array.getD_eq_getD_getElem?, Array.getElem?_eq_none (by omega)] at hj
        simp at hj
    have before : ∀ {j}, j < i → clash ops fl j i = true → listed.getD j false = true := fun {j} hj hc => reach_listed hcl _ _ (((chk' i hi1).2 j hj).1 hc) hi3
    have behind : ∀ {j}, i < j → listed.getD j false = true → clash ops fl i j = true → False := fun {j} hj hl hc => by
      have := reach_listed hcl _ _ (((chk' j (hlt hl)).2 i hj).1 hc) (hcl j hl)
      rw [hil] at this
      cases this
    have hlooks : looksOf ops i = o.looksAt ops := by simp [looksOf, ho]
    have hdst : dstAt ops i = o.dst := by simp [dstAt, ho]
    have slotEq : ∀ t ∈ o.looksAt ops, st.slot t = (ss i).slot t := by
      intro t ht
      rw [← hlooks] at ht
      by_cases hx : ∃ j, listed.getD j false = true ∧ dstAt ops j = some t
      · obtain ⟨j, hj, hd⟩ := hx
        rcases Nat.lt_trichotomy j i with h | h | h
        · rw [hmid.done j hj t hd]
          exact (slotSame t (j + 1) i (by omega) (by omega) fun k h1 h2 => (chk' k (by omega)).2 j (by omega) |>.2 t hd).symm
        · subst h; rw [hil] at hj; cases hj
        · exact (behind h hj (by unfold clash; rw [hd]; simp [ht])).elim
      · have hx' : ∀ j, listed.getD j false = true → dstAt ops j ≠ some t := fun j hj hd => hx ⟨j, hj, hd⟩
        rw [hmid.rest t hx']
        refine (slotSame t 0 i (Nat.zero_le _) (by omega) fun k _ hk hd => ?_).symm
        exact hx' k (before hk (by unfold clash; rw [hd]; simp [ht])) hd
    have memEq : fl.contains i = true → st.mem = (ss i).mem := fun hf => hmid.mem i (by omega) fun j hj hfj => by
      constructor
      · intro hl
        rcases Nat.lt_trichotomy j i with h | h | h
        · exact h
        · subst h; rw [hil] at hl; cases hl
        · exact (behind h hl (by unfold clash; rw [hf, hfj]; simp)).elim
      · intro h
        exact before h (by unfold clash; rw [hf, hfj]; simp)
    refine ⟨o, v, m', ho, fun k hk => hloc st (hmid.n.trans (ssn i (by omega)).symm) slotEq memEq (fun id hid => (hmid.keep id hid).trans (keepAll i (by omega) id hid).symm) k hk, ?_, ?_, ?_⟩
    · refine ⟨?_, fun j hj d hd => ?_, fun t ht => ?_, ?_, fun i' hi' hiff => ?_⟩
      · rw [put_n]; split <;> simpa using hmid.n
      · by_cases hji : j = i
        · subst hji
          rw [hdst] at hd
          rw [hss, hd, put_slot, put_slot, if_pos rfl, if_pos rfl]
        · rw [set_ne hji] at hj
          have hne : o.dst ≠ some d := fun e => by
            rw [← hdst] at e
            rcases Nat.lt_or_gt_of_ne hji with h | h
            · exact ((chk' i hi1).2 j h).2 d hd e
            · exact ((chk' j (hlt hj)).2 i h).2 d e hd
          rw [← hmid.done j hj d hd]
          cases hod : o.dst with
          | none => split <;> rfl
          | some d' =>
            rw [hod] at hne
            rw [put_slot, if_neg (fun e => hne (by rw [e]))]
            split <;> rfl
      · have h1 := ht i (set_same (by omega) false)
        rw [hdst] at h1
        rw [← hmid.rest t fun j hj => ht j (by
          by_cases hji : j = i
          · subst hji; exact set_same (by omega) false
          · rw [set_ne hji]; exact hj)]
        cases hod : o.dst with
        | none => split <;> rfl
        | some d' =>
          rw [hod] at h1
          rw [put_slot, if_neg (fun e => h1 (by rw [e]))]
          split <;> rfl
      · rw [put_mem]
        cases hf : fl.contains i with
        | false => exact hmid.keep
        | true => exact fun id hid => (hsk hf id hid).trans (keepAll i (by omega) id hid)
      · rw [put_mem]
        cases hf : fl.contains i with
        | false =>
          simp only [Bool.false_eq_true, if_false]
          exact hmid.mem i' hi' fun j hj hfj => by
            have hji : j ≠ i := fun e => by rw [e, hf] at hfj; cases hfj
            rw [← hiff j hj hfj, set_ne hji]
        | true =>
          simp only [if_true, setm_mem]
          have e1 : (ss (i + 1)).mem = m' := by rw [hss, hf]; simp
          have hinow : i < i' := (hiff i hi1 hf).1 (set_same (by omega) false)
          rw [← e1]
          refine (memSame (i + 1) i' hinow hi' fun k h1 h2 => ?_).symm
          cases hfk : fl.contains k with
          | false => rfl
          | true =>
            have := (hiff k (by omega) hfk).2 h2
            rw [set_ne (by omega)] at this
            exact (behind (by omega) this (by unfold clash; rw [hf, hfk]; simp)).elim
    · intro j hj k hk
      by_cases hji : j = i
      · subst hji
        by_cases hki : k = j
        · subst hki; exact set_same (by omega) false
        · rw [set_ne hki]; exact hi3 k hk
      · rw [set_ne hji] at hj
        by_cases hki : k = i
        · subst hki; exact set_same (by omega) false
        · rw [set_ne hki]; exact hcl j hj k hk
    · refine countP_less (i := i) (fun x hx hp => ?_) (List.mem_range.2 hi1) (by simp [hi2]) (by simp [set_same (show i < listed.size by omega)])
      by_cases hxi : x = i
      · subst hxi; rw [set_same (by omega)] at hp; cases hp
      · rw [set_ne hxi] at hp; exact hp
  intro fuel
  induction fuel with
  | zero =>
    intro listed a w st hsz hr hmid hcl hleft
    have hnil : Region.ready .any ops listed = [] := by
      cases hrd : Region.ready .any ops listed with
      | nil => rfl
      | cons i l =>
        obtain ⟨_, _, _, _, _, _, _, hlt⟩ := step listed st i hsz hmid hcl (by rw [hrd]; exact List.mem_cons_self ..)
        omega
    exact ⟨hnil, fin listed a w st hsz hr hmid hnil⟩
  | succ fuel ih =>
    intro listed a w st hsz hr hmid hcl hleft
    refine ⟨fin listed a w st hsz hr hmid, fun i hi => ?_⟩
    obtain ⟨o, v, m', ho, hgo, hmid', hcl', hlt⟩ := step listed st i hsz hmid hcl hi
    exact go_sound hF hr ho (hgo (fun s => s = (if fl.contains i then st.setm m' else st).put o.dst v) rfl) fun st' a' w' h1 h2 => by
      subst h2
      exact ih _ a' w' _ (by simpa using hsz) h1 hmid' hcl' (by omega)

theorem awp_drawn {F : Fence} {Q : Exit → St → Prop} {id : Nat} (hF : Wide F) (hm : P.follows .mixedOrders = true) (fl : List Nat) (kp : List Id) (chk : drawnOk ops fl = true) (h : vdr P ops fl kp (Q .normal) 0 ops.toList st) :
    AWp P F (.region id ops true) Q st := fun cx n a w hr => by
  obtain ⟨ss, h0, hQ, hrun⟩ := vdr_run _ _ _ h
  refine wpIn_region_any hm ?_
  obtain ⟨K, G, B, hr⟩ := hr
  have nol : ∀ j, (Array.replicate ops.size false).getD j false = false := fun j => by
    rw [Array.getD_eq_getD_getElem?, Array.getElem?_replicate]
    split <;> rfl
  refine drawn_go (ss := ss) (fl := fl) (kp := kp) hF chk (fun j o ho => ?_) (by simpa using hQ) _ _ _ _ st (by simp) ⟨K, G, B, hr.drew _⟩ ⟨by rw [h0], fun j hj => ?_, fun t _ => by rw [h0], by rw [h0]; exact fun _ _ => rfl, fun i hi hiff => ?_⟩ (fun j hj => ?_) ?_
  · have := hrun j o (by rw [Array.getElem?_toList]; exact ho)
    simpa using this
  · rw [nol] at hj; cases hj
  · have hno : ∀ k, k < i → fl.contains k = false := fun k hk => by
      cases hf : fl.contains k with
      | false => rfl
      | true =>
        have := (hiff k (by omega) hf).2 hk
        rw [nol] at this
        cases this
    have : ∀ i, i ≤ ops.size → (∀ k, k < i → fl.contains k = false) → (ss i).mem = (ss 0).mem := by
      intro i
      induction i with
      | zero => intros; rfl
      | succ i ih =>
        intro hi hno
        have hi' : i < ops.size := by omega
        obtain ⟨v, m', _, h2, _⟩ := hrun i ops[i] (by rw [Array.getElem?_toList, Array.getElem?_eq_getElem hi'])
        rw [h2, Nat.zero_add, hno i (by omega)]
        simp only [Bool.false_eq_true, if_false, put_mem]
        exact ih (by omega) fun k hk => hno k (by omega)
    rw [this i hi hno, h0]
  · rw [nol] at hj; cases hj
  · unfold left
    exact Nat.le_trans List.countP_le_length (by simp)

section simps
variable {kp : List Id} {e : Bool} {k : St → Prop} {fl : List Nat} {i : Nat} {l : List Oper} {d : Option Tmp} {op : Op} {ty : TypeId} {pos : String} {aft : Array Edge} {v : PV}

@[simp] theorem vdr_nil : vdr P ops fl kp k i [] st = k st := rfl
@[simp] theorem vdr_cons : vdr P ops fl kp k i (o :: l) st = dgo P ops kp (fl.contains i) o (vdr P ops fl kp k (i + 1) l) st := rfl
@[simp] theorem dgo_none : dgo P ops kp e ⟨d, op, ty, pos, aft, none⟩ k st = dstep P kp e ⟨d, op, ty, pos, aft, none⟩ k st := rfl
def ddo (P : Program) (kp : List Id) (e : Bool) (o : Oper) (k : St → Prop) (st : St) : Prop := dstep P kp e o k st
@[simp] theorem ddo_eq : ddo P kp e o k st = dstep P kp e o k st := rfl
@[simp] theorem dgo_some {j : Nat} {b : Bool} : dgo P ops kp e ⟨d, op, ty, pos, aft, some (j, b)⟩ k st = gif (guardVal ops st j) b (ddo P kp e ⟨d, op, ty, pos, aft, some (j, b)⟩ k) (skipd d k) st := rfl
@[simp] theorem dstep_true : dstep P kp true o k st = vstep P o (eff P o st) (keepk kp st.mem k) st := rfl
@[simp] theorem keepk_eq {m0 : Mem} : keepk kp m0 k st = (sameAt kp m0 st.mem ∧ k st) := rfl
@[simp] theorem sameAt_nil {m0 m : Mem} : sameAt [] m0 m = True := by simp [sameAt]
@[simp] theorem sameAt_cons {m0 m : Mem} {id : Id} : sameAt (id :: kp) m0 m = (m id = m0 id ∧ sameAt kp m0 m) := by simp [sameAt]
@[simp] theorem over_app {m0 m : Mem} {id : Id} : over kp m0 m id = if id ∈ kp then m0 id else m id := rfl
def dpure (P : Program) (kp : List Id) (o : Oper) (r : Option (PV × Mem)) (k : St → Prop) (st : St) : Prop := match r with
  | some (v, _) => (∀ m, eff P o (st.setm (over kp st.mem m)) = some (v, over kp st.mem m)) ∧ okDst st o.dst = true ∧ k (st.put o.dst v)
  | none => False
@[simp] theorem dstep_false : dstep P kp false o k st = dpure P kp o (eff P o st) k st := by
  unfold dpure dstep
  simp only
  apply propext
  constructor
  · rintro ⟨v, h1, h2⟩
    have := h1 st.mem
    rw [over_same (fun _ _ => rfl), setm_self] at this
    rw [this]
    exact ⟨h1, h2⟩
  · intro h
    split at h
    · exact ⟨_, h⟩
    · exact h.elim
@[simp] theorem dpure_some : dpure P kp o (some (v, m)) k st = ((∀ m, eff P o (st.setm (over kp st.mem m)) = some (v, over kp st.mem m)) ∧ okDst st o.dst = true ∧ k (st.put o.dst v)) := rfl
@[simp] theorem ev_setm {x : Operand} : (st.setm m).ev x = st.ev x := by cases x <;> rfl
end simps

end Go.Proofs.Ytfnplmglpbihhaa.Vm
