/- Regions in the text's order, code, and whole functions. -/
import Derived.Test.YtfnplmglpbihhaaVmJ
import Derived.Scope
namespace Go.Proofs.Ytfnplmglpbihhaa.Vm
open Go Go.RowKit
set_option linter.unusedVariables false
set_option linter.unusedSimpArgs false

variable {P : Program} {cx : Cx} {st : St} {a : Act} {w w' : World} {K K' : Nat → Prop} {G G' : Id → Value} {B B' : Id → Option Nat} {m m' : Mem} {L L' : List Nat}

def vstep (P : Program) (o : Oper) (r : Option (PV × Mem)) (k : St → Prop) (st : St) : Prop :=
  match r with
  | some (v, m) => okDst st o.dst = true ∧ k (({ st with mem := m } : St).put o.dst v)
  | none => vcall P o k st

def guardVal (ops : Array Oper) (st : St) (j : Nat) : Option (Option Bool) :=
  match (ops[j]?).bind (·.dst) with
  | some d => match st.slot d with
    | .l (.d (.v (.bool b))) => if d < st.n then some (some b) else none
    | .tup _ => some none
    | _ => none
  | none => none

def vgo (P : Program) (ops : Array Oper) (o : Oper) (k : St → Prop) (st : St) : Prop :=
  match o.guard with
  | none => vstep P o (eff P o st) k st
  | some (j, b) => match guardVal ops st j with
    | some t => (t = some b → vstep P o (eff P o st) k st) ∧ (¬ t = some b → okDst st o.dst = true ∧ k (st.put o.dst (.tup [])))
    | none => False

def vops (P : Program) (ops : Array Oper) (k : St → Prop) : List Oper → St → Prop
  | [], st => k st
  | o :: l, st => vgo P ops o (vops P ops k l) st

theorem step_sound {F : Fence} {n : Nat} {o : Oper} {k : St → Prop} {Q : Exit → Act → World → Prop} (hF : Wide F) (h : Rel cx st a w) (hc : vstep P o (eff P o st) k st) :
    o.wpIn F n P a w (fun a' w' => ∃ st', Rel cx st' a' w' ∧ k st') Q := by
  cases he : eff P o st with
  | none =>
    rw [he] at hc
    exact vcall_sound hF h hc
  | some r =>
    obtain ⟨v, m⟩ := r
    rw [he] at hc
    obtain ⟨hd, hk⟩ := hc
    obtain ⟨K, G, B, h⟩ := h
    obtain ⟨nx, w1, K1, G1, B1, hrun, hR, hres⟩ := eff_sound h he
    refine ⟨fun f _ => hF.fn f, ?_⟩
    rw [Oper.semAt_eq _ _ _ (by
      intro c hop
      unfold eff at he
      rw [hop] at he
      cases he), hrun]
    rcases hres with ⟨u, rfl, hv⟩ | ⟨rfl, hv⟩
    · exact ⟨_, ⟨K1, G1, B1, hR.put hv hd⟩, hk⟩
    · simp only at hv
      subst hv
      exact ⟨_, ⟨K1, G1, B1, hR.put (x := .l .any) trivial hd⟩, hk⟩

theorem guardVal_sound {ops : Array Oper} {j : Nat} {t : Option Bool} (h : Rel cx st a w) (hg : guardVal ops st j = some t) : yielded ops a.tmps j = t := by
  obtain ⟨K, G, B, h⟩ := h
  unfold guardVal at hg
  split at hg
  · rename_i d hd
    split at hg
    · rename_i b hs
      split at hg <;> cases hg
      rename_i hlt
      have := h.slots d
      rw [hs] at this
      have hv := rep_d this
      unfold yielded
      rw [hd]
      have hlt' : d < a.tmps.size := by rw [h.len]; exact hlt
      simp only [Option.bind_some]
      rw [Array.getElem?_eq_getElem hlt']
      have e : a.tmps.getD d undef = a.tmps[d] := by simp [Array.getD, hlt']
      rw [e] at hv
      rw [hv]
    · rename_i xs hs
      cases hg
      have := h.slots d
      rw [hs] at this
      obtain ⟨vs, hv, _⟩ := this
      unfold yielded
      rw [hd]
      simp only [Option.bind_some]
      by_cases hlt' : d < a.tmps.size
      · rw [Array.getElem?_eq_getElem hlt']
        have e : a.tmps.getD d undef = a.tmps[d] := by simp [Array.getD, hlt']
        rw [e] at hv
        rw [hv]
      · rw [Array.getElem?_eq_none (Nat.le_of_not_lt hlt')]
    · cases hg
  · cases hg

theorem go_sound {F : Fence} {n : Nat} {ops : Array Oper} {i : Nat} {o : Oper} {k : St → Prop} {K0 : Act → World → Prop} {Q : Exit → Act → World → Prop} (hF : Wide F) (h : Rel cx st a w) (hi : ops[i]? = some o) (hc : vgo P ops o k st)
    (hK : ∀ st' a' w', Rel cx st' a' w' → k st' → K0 a' w') : wpOpIn F n P ops Q i K0 a w := by
  unfold wpOpIn
  rw [hi]
  simp only
  unfold vgo at hc
  split at hc
  · rename_i hg
    rw [if_pos (by simp [Region.wanted, hg])]
    exact Oper.wpIn_mono (fun a' w' ⟨st', h1, h2⟩ => hK st' a' w' h1 h2) (step_sound hF h hc)
  · rename_i j b hg
    split at hc
    · rename_i t ht
      have hy := guardVal_sound h ht
      by_cases htb : t = some b
      · rw [if_pos (by simp [Region.wanted, hg, hy, htb])]
        exact Oper.wpIn_mono (fun a' w' ⟨st', h1, h2⟩ => hK st' a' w' h1 h2) (step_sound hF h (hc.1 htb))
      · rw [if_neg (by simp [Region.wanted, hg, hy]; exact htb)]
        obtain ⟨hd, hk⟩ := hc.2 htb
        refine ⟨fun f _ => hF.fn f, ?_⟩
        obtain ⟨K, G, B, h⟩ := h
        exact hK _ _ _ ⟨K, G, B, h.put (x := .tup []) ⟨#[], rfl, rfl, fun i x hx => by simp at hx⟩ hd⟩ hk
    · exact hc.elim

/-- What a piece of code comes to. -/
def AWp (P : Program) (F : Fence) (c : Code) (Q : Exit → St → Prop) (st : St) : Prop :=
  ∀ (cx : Cx) (n : Nat) (a : Act) (w : World), Rel cx st a w → c.wpIn F n P (fun e a' w' => ∃ st', Rel cx st' a' w' ∧ Q e st') a w

def Then (next : St → Prop) (Q : Exit → St → Prop) : Exit → St → Prop
  | .normal, st => next st
  | e, st => Q e st

def InBlock (id : Nat) (Q : Exit → St → Prop) : Exit → St → Prop
  | .exit id', st => if id' = id then Q .normal st else Q (.exit id') st
  | e, st => Q e st

section scope
variable {F : Fence} {n : Nat} {b : Frame} {k : List Item} {cs : List Frame} {Q : Exit → Act → World → Prop}

theorem stepR_scope {c : Code} : step P (lone (b.atR a (.code (.scope c) :: k)) cs w) = .next (lone (b.atR a (.code c :: .inScope c :: k)) cs w) :=
  step_lone_go (by simp [stepG, stepG.exec, Frame.atR])
theorem stepR_inScope {c : Code} : step P (lone (b.atR a (.inScope c :: k)) cs w) = .next (lone (b.atR a k) cs w) :=
  step_lone_go (by simp [stepG, stepG.exec, Frame.atR])

theorem wpIn_scope {c : Code} (h : c.wpIn F n P (Exit.noGoto Q) a w) : (Code.scope c).wpIn F n P Q a w := by
  intro b k cs hro hb hr
  have h0 : (lone (b.atR a (.code (.scope c) :: k)) cs w).fenced P F := fenced_calm hb hr rfl
  obtain ⟨e, a₁, w₁, hq, harr⟩ := h b (.inScope c :: k) cs hro hb hr
  cases e with
  | normal => exact ⟨.normal, a₁, w₁, hq, .head h0 stepR_scope (StepsIn.trans harr (.one (fenced_calm hb hr rfl) stepR_inScope))⟩
  | exit id' =>
    have hx : exitTo id' (.inScope c :: k) = exitTo id' k := by simp [exitTo]
    exact ⟨.exit id', a₁, w₁, hq, fun k' hk => .head h0 stepR_scope (harr.1 k' (by rw [hx]; exact hk)),
        fun hr' hk => let ⟨k₁, h1, h2⟩ := harr.2 hr' (by rw [hx]; exact hk); ⟨k₁, h1, .head h0 stepR_scope h2⟩⟩
  | goto l => exact hq.elim
  | ret => exact ⟨_, a₁, w₁, hq, .of_steps (.one h0 stepR_scope) harr⟩
  | panic ch => exact ⟨_, a₁, w₁, hq, .of_steps (.one h0 stepR_scope) harr⟩
  | outgrown => exact ⟨_, a₁, w₁, hq, .of_steps (.one h0 stepR_scope) harr⟩
end scope

def NoGoto (Q : Exit → St → Prop) : Exit → St → Prop
  | .goto _, _ => False
  | e, st => Q e st

section rules
variable {F : Fence} {Q : Exit → St → Prop}

theorem awp_mono {c : Code} {Q' : Exit → St → Prop} (h : AWp P F c Q st) (hq : ∀ e st, Q e st → Q' e st) : AWp P F c Q' st :=
  fun cx n a w hr => wpIn_mono (h cx n a w hr) fun e a' w' ⟨st', h1, h2⟩ => ⟨st', h1, hq e st' h2⟩

theorem awp_skip (h : Q .normal st) : AWp P F .skip Q st := fun cx n a w hr => wpIn_skip ⟨st, hr, h⟩
theorem awp_label {l : Nat} (h : Q .normal st) : AWp P F (.label l) Q st := fun cx n a w hr => wpIn_label ⟨st, hr, h⟩
theorem awp_exit {id : Nat} (h : Q (.exit id) st) : AWp P F (.exit id) Q st := fun cx n a w hr => wpIn_exit ⟨st, hr, h⟩
theorem awp_goto {l : Nat} (h : Q (.goto l) st) : AWp P F (.goto l) Q st := fun cx n a w hr => wpIn_goto ⟨st, hr, h⟩
theorem awp_ret (h : Q .ret st) : AWp P F .ret Q st := fun cx n a w hr => wpIn_ret ⟨st, hr, h⟩

theorem awp_seq {x y : Code} (h : AWp P F x (Then (AWp P F y Q) Q) st) : AWp P F (.seq x y) Q st := fun cx n a w hr =>
  wpIn_seq (wpIn_mono (h cx n a w hr) fun e a' w' ⟨st', h1, h2⟩ => by
    cases e with
    | normal => exact h2 cx n a' w' h1
    | _ => exact ⟨st', h1, h2⟩)

theorem awp_cond {c : Operand} {x y : Code} {t : Bool} (hc : st.ev c = .l (.d (.v (.bool t)))) (h1 : t = true → AWp P F x Q st) (h2 : t = false → AWp P F y Q st) : AWp P F (.cond c x y) Q st := fun cx n a w hr => by
  obtain ⟨K, G, B, hr'⟩ := hr
  have := rep_ev hr' c
  rw [hc] at this
  refine wpIn_cond (t := t) (rep_d this) ?_
  cases t
  · exact h2 rfl cx n a w ⟨K, G, B, hr'⟩
  · exact h1 rfl cx n a w ⟨K, G, B, hr'⟩

theorem awp_block {id : Nat} {c : Code} (h : AWp P F c (InBlock id Q) st) : AWp P F (.block id c) Q st := fun cx n a w hr =>
  wpIn_block (wpIn_mono (h cx n a w hr) fun e a' w' ⟨st', h1, h2⟩ => by
    cases e with
    | exit id' =>
      simp only [InBlock] at h2
      simp only [Exit.inBlock]
      split at h2
      · rename_i e; rw [if_pos e]; exact ⟨st', h1, h2⟩
      · rename_i e; rw [if_neg e]; exact ⟨st', h1, h2⟩
    | _ => exact ⟨st', h1, h2⟩)

theorem awp_scope {c : Code} (h : AWp P F c (NoGoto Q) st) : AWp P F (.scope c) Q st := fun cx n a w hr =>
  wpIn_scope (wpIn_mono (h cx n a w hr) fun e a' w' ⟨st', h1, h2⟩ => by
    cases e with
    | goto l => exact h2.elim
    | _ => exact ⟨st', h1, h2⟩)

theorem least {p : Nat → Prop} (h : ∃ k, p k) : ∃ k, p k ∧ ∀ j, p j → k ≤ j := by
  obtain ⟨k, hk⟩ := h
  induction k using Nat.strongRecOn with
  | _ k ih =>
    by_cases hj : ∃ j, j < k ∧ p j
    · obtain ⟨j, h1, h2⟩ := hj
      exact ih j h1 h2
    · exact ⟨k, hk, fun j hp => Nat.le_of_not_lt fun hlt => hj ⟨j, hlt, hp⟩⟩

noncomputable def leastOf (p : Nat → Prop) : Nat := Classical.epsilon fun k => p k ∧ ∀ j, p j → k ≤ j

theorem leastOf_spec {p : Nat → Prop} (h : ∃ k, p k) : p (leastOf p) ∧ ∀ j, p j → leastOf p ≤ j := Classical.epsilon_spec (least h)

/-- A loop: what holds at every round's head, by a measure. -/
theorem awp_loop {c : Code} (I : Nat → St → Prop) (n0 : Nat) (h0 : I n0 st) (round : ∀ n st, I n st → AWp P F c (Then (fun st' => ∃ n', n' < n ∧ I n' st') Q) st) : AWp P F (.loop c) Q st := fun cx n a w hr => by
  refine wpIn_loop (fun a w => ∃ k st, I k st ∧ Rel cx st a w) (fun a w => leastOf fun k => ∃ st, I k st ∧ Rel cx st a w) ⟨n0, st, h0, hr⟩ ?_
  rintro a w ⟨k0, st0, hI0, hR0⟩
  obtain ⟨⟨st1, hI, hR⟩, _⟩ := leastOf_spec (p := fun k => ∃ st, I k st ∧ Rel cx st a w) ⟨k0, st0, hI0, hR0⟩
  refine wpIn_mono (round _ st1 hI cx n a w hR) fun e a' w' ⟨st', h1, h2⟩ => ?_
  cases e with
  | normal =>
    obtain ⟨n', hlt, hI'⟩ := h2
    exact ⟨⟨n', st', hI', h1⟩, Nat.lt_of_le_of_lt ((leastOf_spec (p := fun k => ∃ st, I k st ∧ Rel cx st a' w') ⟨n', st', hI', h1⟩).2 n' ⟨st', hI', h1⟩) hlt⟩
  | _ => exact ⟨st', h1, h2⟩

theorem ops_sound {ops : Array Oper} {n : Nat} (hF : Wide F) : ∀ (l : List Nat) (os : List Oper) {st : St} {a : Act} {w : World}, (∀ (j : Nat) i, l[j]? = some i → ∃ o, os[j]? = some o ∧ ops[i]? = some o) → l.length = os.length →
    Rel cx st a w → vops P ops (Q .normal) os st → wpOpsIn F n P ops (fun e a' w' => ∃ st', Rel cx st' a' w' ∧ Q e st') l a w
  | [], [], st, a, w, _, _, hr, hv => ⟨st, hr, hv⟩
  | [], _ :: _, st, a, w, _, hl, hr, hv => by simp at hl
  | _ :: _, [], st, a, w, _, hl, hr, hv => by simp at hl
  | i :: l, o :: os, st, a, w, hi, hl, hr, hv => by
    rw [wpOpsIn_cons]
    obtain ⟨o', h1, h2⟩ := hi 0 i rfl
    simp at h1
    subst h1
    exact go_sound hF hr h2 hv fun st' a' w' h3 h4 => ops_sound hF l os (fun j i hj => by
      obtain ⟨o, q1, q2⟩ := hi (j + 1) i (by simpa using hj)
      exact ⟨o, by simpa using q1, q2⟩) (by simpa using hl) h3 h4

theorem awp_region {id : Nat} {ops : Array Oper} (hF : Wide F) (h : vops P ops (Q .normal) ops.toList st) : AWp P F (.region id ops false) Q st := fun cx n a w hr =>
  wpIn_region (ops_sound hF _ _ (fun j i hj => by
    have hlt : j < ops.size := by
      have := (List.getElem?_eq_some_iff.1 hj).1
      simpa using this
    have e : i = j := by
      have := (List.getElem?_eq_some_iff.1 hj).2
      simpa using this.symm
    subst e
    exact ⟨ops[i], by rw [Array.getElem?_toList, Array.getElem?_eq_getElem hlt], Array.getElem?_eq_getElem hlt⟩) (by simp) hr h)

end rules

/-! ### Whole functions -/

def St0 (n : Nat) (m : Mem) (xs : List PV) : St := { n := n, slot := fun t => xs.getD t (.l .any), mem := m }

def mem0 : Mem := fun _ => (0, .none)

/-- The state when a function begins: parameters from slot 0 on. -/
def entry (P : Program) (n : Nat) (as : List AV) : St := St0 n (fromAVs P mem0 [] [0, 0] 0 as).2 (fromAVs P mem0 [] [0, 0] 0 as).1

/-- What a function hands back, told at its end. -/
def finish (P : Program) (rslots : List Nat) (rmds : List Md) (cells : List (Id × Nat)) (cmds : List (List LM)) (st : St) : Option (List AV × List (List AL)) :=
  match toAVs P st.mem rmds (rslots.map st.slot) with
  | some (rs, m1) => match toPtrs P m1 cmds cells with
    | some (outs, _) => some (rs, outs)
    | none => none
  | none => none

/-- Addresses that a function was handed. -/
def entryCells : List PV → List (Id × Nat)
  | [] => []
  | x :: xs => cellsOf x ++ entryCells xs

def Post (P : Program) (rslots : List Nat) (rmds : List Md) (cells : List (Id × Nat)) (cmds : List (List LM)) (rs : List AV) (outs : List (List AL)) : Exit → St → Prop
  | .ret, st => finish P rslots rmds cells cmds st = some (rs, outs)
  | .normal, st => finish P rslots rmds cells cmds st = some (rs, outs)
  | _, _ => False

theorem results_val {fn : Func} {rslots : List Nat} (h : fn.results = (rslots.map ResultVar.tmp).toArray) (tmps : Array Value) : (results fn tmps).run P w = .ok (resVal (rslots.map fun t => tmps.getD t undef)) w := by
  have hm : ∀ (l : List Nat), ((l.map ResultVar.tmp).mapM (m := Sem) fun | .tmp t => pure (tmps.getD t undef) | .cell x t => do loadVar t (← asAddr (tmps.getD x undef))).run P w = .ok (l.map fun t => tmps.getD t undef) w := by
    intro l
    induction l with
    | nil => rfl
    | cons t l ih =>
      rw [List.map_cons, List.mapM_cons]
      simp only [Sem.run_bind, Sem.run_pure, Result.andThen_ok, ih, List.map_cons]
  unfold results
  rw [h, List.mapM_toArray, map_eq_pure_bind]
  rw [Sem.run_bind, Sem.run_bind]
  have e := congrArg (fun (r : Result (List Value)) => (r.andThen fun a w' => (pure a.toArray : Sem (Array Value)).run P w').andThen fun (a : Array Value) w' => (pure (if h : a.size = 1 then a[0] else Value.tuple a) : Sem Value).run P w') (hm rslots)
  refine Eq.trans e ?_
  simp only [Result.andThen_ok, Sem.run_pure]
  congr 1
  cases rslots with
  | nil => rfl
  | cons t l => cases l with
    | nil => rfl
    | cons t2 l => rfl

theorem entry_cells {M : Mem} : ∀ (as : List AV) (m : Mem) (pre suf : Id) (k : Nat) (vs : List Value), vs.length = (fromAVs P m pre suf k as).1.length →
    (∀ (i : Nat) x, (fromAVs P m pre suf k as).1[i]? = some x → ∃ u, vs[i]? = some u ∧ RepPV1 w K M G x u) →
    (ptrs as vs).length = (entryCells (fromAVs P m pre suf k as).1).length ∧ ∀ (i : Nat) c n, (entryCells (fromAVs P m pre suf k as).1)[i]? = some (c, n) → n ≤ (M c).1 ∧ ∃ b, (ptrs as vs)[i]? = some (.pointer (some ⟨b, 0, none⟩)) ∧ ((M c).1 = n → G c = .pointer (some ⟨b, 0, none⟩))
  | [], m, pre, suf, k, vs, hl, hp => by
    have : vs = [] := List.eq_nil_of_length_eq_zero (by simpa [fromAVs] using hl)
    subst this
    exact ⟨rfl, fun i c n hi => by simp [fromAVs, entryCells] at hi⟩
  | x :: as, m, pre, suf, k, [], hl, hp => by simp [fromAVs] at hl
  | x :: as, m, pre, suf, k, v :: vs, hl, hp => by
    obtain ⟨ih1, ih2⟩ := entry_cells as (fromAV P m (pre ++ k :: suf) x).2 pre suf (k + 1) vs (by simpa [fromAVs] using hl) (fun i y hy => by
      obtain ⟨u, q1, q2⟩ := hp (i + 1) y (by simpa [fromAVs] using hy)
      exact ⟨u, by simpa using q1, q2⟩)
    obtain ⟨u, q1, q2⟩ := hp 0 (fromAV P m (pre ++ k :: suf) x).1 (by simp [fromAVs])
    simp at q1
    subst q1
    have key : (ptrsOf x v).length = (cellsOf (fromAV P m (pre ++ k :: suf) x).1).length ∧ ∀ (i : Nat) c n, (cellsOf (fromAV P m (pre ++ k :: suf) x).1)[i]? = some (c, n) → n ≤ (M c).1 ∧ ∃ b, (ptrsOf x v)[i]? = some (.pointer (some ⟨b, 0, none⟩)) ∧ ((M c).1 = n → G c = .pointer (some ⟨b, 0, none⟩)) := by
      cases x with
      | l x =>
        have h1 : ptrsOf (.l x) v = [] := by cases v <;> rfl
        rw [h1]
        cases x with
        | d x => exact ⟨rfl, fun i c n hi => by simp [fromAV, fromAL, cellsOf] at hi⟩
        | own e xss => exact ⟨rfl, fun i c n hi => by simp [fromAV, fromAL, cellsOf] at hi⟩
      | agg xs =>
        have h1 : ptrsOf (.agg xs) v = [] := by cases v <;> rfl
        rw [h1]
        exact ⟨rfl, fun i c n hi => by simp [fromAV, cellsOf] at hi⟩
      | ptr ls =>
        obtain ⟨_, hle, b, hv, hG⟩ := q2
        subst hv
        refine ⟨rfl, fun i c n hi => ?_⟩
        cases i with
        | zero =>
          simp [fromAV, cellsOf] at hi
          obtain ⟨rfl, rfl⟩ := hi
          exact ⟨hle, b, rfl, hG⟩
        | succ i => simp [fromAV, cellsOf] at hi
      | clo f caps =>
        obtain ⟨_, cvs, hv, hsz, hc⟩ := q2
        subst hv
        refine ⟨by simpa [ptrsOf, fromAV, cellsOf] using hsz, fun i c n hi => ?_⟩
        obtain ⟨h1, b, h2, h3⟩ := hc i c n hi
        exact ⟨h1, b, by simpa [ptrsOf] using h2, h3⟩
    refine ⟨by simp [ptrs, fromAVs, entryCells, key.1, ih1], fun i c n hi => ?_⟩
    simp only [fromAVs, entryCells] at hi
    simp only [ptrs]
    by_cases hlt : i < (cellsOf (fromAV P m (pre ++ k :: suf) x).1).length
    · rw [List.getElem?_append_left hlt] at hi
      rw [List.getElem?_append_left (by rw [key.1]; exact hlt)]
      exact key.2 i c n hi
    · rw [List.getElem?_append_right (by omega)] at hi
      rw [List.getElem?_append_right (by rw [key.1]; omega), key.1]
      exact ih2 _ c n hi

theorem entry_rel {as : List AV} {vs : List Value} {bs : List Nat} {n : Nat} (hn : vs.length ≤ n) (hr : RepL (AVRep P w K) as vs bs) (hnd : bs.Nodup) (hb : ∀ b ∈ bs, ¬ K b ∧ b < w.heap.size) (hK : ∀ b, K b → b < w.heap.size) :
    ∃ G B, Rel1 ⟨w, (· ∈ bs), K, fun c k v => ∃ i : Nat, (entryCells (fromAVs P mem0 [] [0, 0] 0 as).1)[i]? = some (c, k) ∧ (ptrs as vs)[i]? = some v⟩ (entry P n as) ⟨vs.toArray ++ Array.replicate (n - vs.toArray.size) undef, []⟩ w K G B ∧
      (ptrs as vs).length = (entryCells (fromAVs P mem0 [] [0, 0] 0 as).1).length ∧ ∀ (i : Nat) c k, (entryCells (fromAVs P mem0 [] [0, 0] 0 as).1)[i]? = some (c, k) → ∃ b, (ptrs as vs)[i]? = some (.pointer (some ⟨b, 0, none⟩)) := by
  have h0 : RelL ⟨w, (· ∈ bs), K, fun _ _ _ => False⟩ (St0 n mem0 []) ⟨Array.replicate n undef, []⟩ w K (fun _ => undef) (fun _ => none) (bs ++ []) := by
    refine ⟨?_, by simpa using hnd, fun b hb' => ?_⟩
    · exact {
        slots := fun t => trivial
        len := by simp [St0]
        defers := rfl
        os := rfl
        tape := rfl
        output := rfl
        size := Nat.le_refl _
        frame := fun _ _ _ => rfl
        kept := fun _ hb => hb
        keptLt := hK
        keptIn := fun _ hb => .inl hb
        ents := fun id => trivial
        dead := fun _ _ _ => rfl
        inj := fun _ _ _ h => by cases h
        mine := fun _ _ h => by cases h
        pins := fun _ _ _ h => h.elim }
    · have hb' : b ∈ bs := by simpa using hb'
      exact ⟨(hb b hb').1, (hb b hb').2, .inr hb', fun id => by simp⟩
  obtain ⟨G, B, hR, ⟨hl, hp⟩, _⟩ := fromAVs_sound as [] [0, 0] 0 h0 hr
  have hl : vs.length = (fromAVs P mem0 [] [0, 0] 0 as).1.length := hl
  obtain ⟨hec1, hec2⟩ := entry_cells as mem0 [] [0, 0] 0 vs hl hp
  refine ⟨G, B, ?_, hec1, fun i c k hi => let ⟨_, b, h2, _⟩ := hec2 i c k hi; ⟨b, h2⟩⟩
  · have h1 := hR.rel
    exact {
      slots := fun t => by
        show RepPV w K _ G ((fromAVs P mem0 [] [0, 0] 0 as).1.getD t (.l .any)) ((vs.toArray ++ Array.replicate (n - vs.toArray.size) undef).getD t undef)
        by_cases ht : t < vs.length
        · obtain ⟨x, hx⟩ : ∃ x, (fromAVs P mem0 [] [0, 0] 0 as).1[t]? = some x := ⟨_, List.getElem?_eq_getElem (by rw [← hl]; exact ht)⟩
          obtain ⟨u, q1, q2⟩ := hp t x hx
          rw [List.getD_eq_getElem?_getD, hx]
          have e : (vs.toArray ++ Array.replicate (n - vs.toArray.size) undef).getD t undef = u := by
            rw [Array.getD_eq_getD_getElem?, Array.getElem?_append_left (by simpa using ht)]
            simp [q1]
          rw [e]
          exact RepPV.one q2
        · have : (fromAVs P mem0 [] [0, 0] 0 as).1[t]? = none := List.getElem?_eq_none (by rw [← hl]; omega)
          rw [List.getD_eq_getElem?_getD, this]
          trivial
      len := by show _ = n; simp; omega
      defers := rfl
      os := h1.os
      tape := h1.tape
      output := h1.output
      size := h1.size
      frame := h1.frame
      kept := h1.kept
      keptLt := h1.keptLt
      keptIn := h1.keptIn
      ents := h1.ents
      dead := h1.dead
      inj := h1.inj
      mine := h1.mine
      pins := fun c n v hp => by
        obtain ⟨i, hi1, hi2⟩ := hp
        obtain ⟨q1, b, q2, q3⟩ := hec2 i c n hi1
        rw [q2] at hi2
        cases hi2
        exact ⟨q1, q3⟩ }

theorem vfun_of {f : FuncId} {fn : Func} {c : Code} {as rs : List AV} {outs : List (List AL)} {rslots : List Nat} {rmds : List Md} {cmds : List (List LM)}
    (hf : P.funcs[f]? = some fn) (hb : fn.body = some c) (hres : fn.results = (rslots.map ResultVar.tmp).toArray) (hlen : as.length ≤ fn.ntmps)
    (h : AWp P Fence.wide c (Post P rslots rmds (entryCells (fromAVs P mem0 [] [0, 0] 0 as).1) cmds rs outs) (entry P fn.ntmps as)) : VFun P f as rs outs := by
  intro w K vs bs hr hnd hbs hK
  refine callsIn_wide.1 (callsIn_of_wp (n := 0) hf hb trivial ?_)
  obtain ⟨G0, B0, hR0, hcl, hcells⟩ := entry_rel (P := P) (n := fn.ntmps) (by rw [hr.len]; exact hlen) hr hnd hbs hK
  refine wpIn_mono (h _ 0 _ w ⟨K, G0, B0, hR0⟩) ?_
  rintro e a' w' ⟨st, ⟨K1, G1, B1, hR1⟩, hq⟩
  have fin : finish P rslots rmds (entryCells (fromAVs P mem0 [] [0, 0] 0 as).1) cmds st = some (rs, outs) →
      a'.defers = [] ∧ ∃ v, (results fn a'.tmps).run P w' = .ok v w' ∧ (fun e w' => ∃ K' rv bs1 bs2, e = .returned (resVal rv) ∧ RepL (AVRep P w' K') rs rv bs1 ∧ RepL (PtrRep P w' K') outs (ptrs as vs) bs2 ∧
      (bs1 ++ bs2).Nodup ∧ (∀ b ∈ bs1 ++ bs2, ¬ K' b ∧ b < w'.heap.size ∧ (b ∈ bs ∨ w.heap.size ≤ b)) ∧ (∀ b, K b → K' b) ∧
      (∀ b, K' b → b < w'.heap.size ∧ (K b ∨ b ∈ bs ∨ w.heap.size ≤ b)) ∧ w'.os = w.os ∧ w'.tape = w.tape ∧ w'.output = w.output ∧ w.heap.size ≤ w'.heap.size ∧
      ∀ b, b < w.heap.size → b ∉ bs → w'.heap[b]? = w.heap[b]?) (Ending.returned v) w' := by
    intro hfin
    refine ⟨hR1.defers, _, results_val hres _, ?_⟩
    unfold finish at hfin
    split at hfin
    · rename_i rs' m1 h1
      split at hfin <;> cases hfin
      rename_i m2 h2
      obtain ⟨⟨K2, B2, bl1, hR2, hK2, hrep1, hext1⟩, _⟩ := toAVs_sound rmds _ (RelL.of hR1) (us := rslots.map fun t => a'.tmps.getD t undef) (by simp) (fun i x hx => by
        rw [List.getElem?_map, Option.map_eq_some_iff] at hx
        obtain ⟨t, ht, rfl⟩ := hx
        exact ⟨_, by rw [List.getElem?_map, ht]; rfl, hR1.slots t⟩) h1
      simp only [List.append_nil] at hR2
      have hR2' : RelL _ { st with mem := m1 } a' w' K2 G1 B2 bl1 := hR2
      obtain ⟨⟨K3, B3, bl2, hR3, hK3, hrep2, hext2⟩, _⟩ := toPtrs_sound cmds _ hR2' hcl (fun i c n hi => by
        obtain ⟨b, hb⟩ := hcells i c n hi
        obtain ⟨q1, q2⟩ := hR2.rel.pins c n _ ⟨i, hi, hb⟩
        exact ⟨q1, b, hb, q2⟩) h2
      have hR3' := hR3.perm List.perm_append_comm
      refine ⟨K3, _, bl1, bl2, rfl, hrep1.mono (fun x v b _ hx => hx.mono hK3 (fun _ _ => rfl) (fun _ _ => rfl)), hrep2, hR3'.loose.1, fun b hb => ?_, fun b hb => hR3.rel.kept b hb, fun b hb => ⟨hR3.rel.keptLt b hb, ?_⟩, hR3.rel.os, hR3.rel.tape, hR3.rel.output, hR3.rel.size, fun b hb hnb => hR3.rel.frame b hb hnb⟩
      · obtain ⟨q1, q2, q3, _⟩ := hR3'.loose.2 b hb
        exact ⟨q1, q2, q3.symm⟩
      · exact hR3.rel.keptIn b hb
    · cases hfin
  cases e with
  | ret => exact fin hq
  | normal => exact fin hq
  | _ => exact hq.elim

end Go.Proofs.Ytfnplmglpbihhaa.Vm
