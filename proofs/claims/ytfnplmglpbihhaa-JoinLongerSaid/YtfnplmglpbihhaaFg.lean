/- Lists that are merged. -/
import Derived.Test.YtfnplmglpbihhaaFa
namespace Go.Proofs.Ytfnplmglpbihhaa.Vm
open Go Go.RowKit
set_option maxRecDepth 10000
set_option linter.unusedSimpArgs false

def cells (l : List Int) : List (List D) := l.map fun n => [iD n]

theorem v28 (w : Bool) (n : Int) (l : List Int) (hl : l.length ≤ 1000000) :
    VFun Try.prog 28 [.l (.d (.v (.bool w))), .l (.d (iD n)), .ptr [.own 3 (cells l)]] [] [[.own 3 (cells (l ++ if w then [n] else []))]] := by
  refine vfun_of (rslots := []) (rmds := []) (cmds := [[.own 3]]) Try.func28 rfl rfl (by simp [Try.ntmps28]) (awp_of wide0 _ _ _ ?_)
  have e1 : (l.length + 1) * 8 ≤ 140737488355328 := by omega
  have e2 : l.length + 1 ≤ maxLen := by simp [maxLen]; omega
  cases w with
  | true => simp [Try.ntmps28, cells, fromPtr, iD, effBuildSlice, effAppend, effStore, fillL, overlay, chunks, mset_other, Post, finish, toPtr, e1, e2]
  | false => simp [Try.ntmps28, cells, fromPtr, iD, mset_other, Post, finish, toPtr]

/-- What the closure has put so far. -/
def Out (m : Mem) (n : Nat) (out : List Int) : Prop := ∃ leaf, m [12] = (n, .cell [leaf]) ∧ ((leaf = .nil ∧ out = []) ∨ ∃ q, leaf = .own [12, 0] q ∧ m [12, 0] = (q, .row 3 1 (cells out)))

theorem put_call {st : St} {k : St → Prop} {d : Option Tmp} {ty : TypeId} {pos : String} {aft : Array Edge} {g : Option (Nat × Bool)} {fo x y : Operand} {ts : Array TypeId} {n : Nat} {out : List Int} {w : Bool} {v : Int}
    (hl : out.length ≤ 1000000) (hcl : st.ev fo = .l (.clo 28 [([12], n)])) (hm : Out st.mem n out) (h0 : st.ev x = .l (.d (.v (.bool w)))) (h1 : st.ev y = iV v) (hd : okDst st d = true)
    (hk : ∀ m', Out m' n (out ++ if w then [v] else []) → k ((st.setm m').put d (match d with | some _ => .tup [] | none => .l .any))) :
    vcall Try.prog ⟨d, .call { callee := .value fo, args := #[x, y], argTypes := ts }, ty, pos, aft, g⟩ k st := by
  obtain ⟨leaf, h12, hlf⟩ := hm
  rcases hlf with ⟨rfl, rfl⟩ | ⟨q, rfl, hq⟩
  · refine vcall_of [.l .d, .l .d, .ptr [.own 3]] (v28 w v [] (by simp)) hcl cp28 (by simp [h0, h1, iV, iD, h12, toPtr, cells] <;> rfl) (by simp [h0, h1, h12, mset_other, Ent.z] <;> rfl) hd ?_
    cases d with
    | none => exact hk _ ⟨_, by simp [bindRes] <;> rfl, .inr ⟨_, rfl, by simp [bindRes, mset_other] <;> rfl⟩⟩
    | some t => exact hk _ ⟨_, by simp [bindRes] <;> rfl, .inr ⟨_, rfl, by simp [bindRes, mset_other] <;> rfl⟩⟩
  · refine vcall_of [.l .d, .l .d, .ptr [.own 3]] (v28 w v out hl) hcl cp28 (by simp [h0, h1, iV, iD, h12, hq, toPtr, mset_other] <;> rfl) (by simp [h0, h1, h12, mset_other, Ent.z] <;> rfl) hd ?_
    cases d with
    | none => exact hk _ ⟨_, by simp [bindRes] <;> rfl, .inr ⟨_, rfl, by simp [bindRes, mset_other] <;> rfl⟩⟩
    | some t => exact hk _ ⟨_, by simp [bindRes] <;> rfl, .inr ⟨_, rfl, by simp [bindRes, mset_other] <;> rfl⟩⟩

def mrg (f b s : Bool) : List Int → List Int → List Int
  | [], ys => if s then ys else []
  | x :: xs, [] => if f then x :: xs else []
  | x :: xs, y :: ys => if x < y then (if f then [x] else []) ++ mrg f b s xs (y :: ys) else if y < x then (if s then [y] else []) ++ mrg f b s (x :: xs) ys else (if b then [x] else []) ++ mrg f b s xs ys
  termination_by xs ys => xs.length + ys.length

def upTo95 (l : List Int) : Bool := risesTo (-1) l
  where risesTo (last : Int) : List Int → Bool
    | [] => true
    | n :: l => if n ≤ last ∨ n ≥ 4096 then false else risesTo n l

theorem out_mono {m m' : Mem} {n : Nat} {out : List Int} (h : Out m n out) (e : m' = m) : Out m' n out := e ▸ h

theorem v24 (a b : List Int) (f o s : Bool) (ha : a.length ≤ 10000) (hb : b.length ≤ 10000) (h27a : VFun Try.prog 27 [.l (.d (encInts a))] [.l (.d (.v (.bool true)))] []) (h27b : VFun Try.prog 27 [.l (.d (encInts b))] [.l (.d (.v (.bool true)))] []) :
    VFun Try.prog 24 [.l (.d (encInts a)), .l (.d (encInts b)), .l (.d (.v (.bool f))), .l (.d (.v (.bool o))), .l (.d (.v (.bool s)))] [.l (.d (encInts (mrg f o s a b))), .l (.d (iD 0))] [] := by
  refine vfun_of (rslots := [10, 11]) (rmds := [.l .d, .l .d]) (cmds := []) Try.func24 rfl rfl (by simp [Try.ntmps24]) (awp_of wide0 _ _ _ ?_)
  simp [Try.ntmps24, guardVal]
  refine vcall_of [.l .d] h27a rfl cp27 (by simp <;> rfl) (by simp <;> rfl) (by simp [Try.ntmps24]) ?_
  simp [Try.ntmps24, guardVal, bindRes]
  refine vcall_of [.l .d] h27b rfl cp27 (by simp <;> rfl) (by simp <;> rfl) (by simp [Try.ntmps24]) ?_
  simp [Try.ntmps24, guardVal, bindRes, effNew, effMakeFunc, capsOf]
  refine awp_loop (fun m st => ∃ (x y out : List Int), m = x.length + y.length ∧ st.n = 100 ∧ st.slot 0 = .l (.d (encInts x)) ∧ st.slot 1 = .l (.d (encInts y)) ∧ st.slot 2 = bV f ∧ st.slot 3 = bV o ∧ st.slot 4 = bV s ∧
    st.slot 12 = .l (.ptr [12] 1 0) ∧ st.slot 13 = .l (.clo 28 [([12], 1)]) ∧ Out st.mem 1 out ∧ mrg f o s a b = out ++ mrg f o s x y ∧ out.length + x.length + y.length ≤ 20000) _ ⟨a, b, [], rfl, ?_⟩ ?_
  · simp [bV, Out]; omega
  · rintro m st ⟨x, y, out, rfl, hn, h0, h1, h2, h3, h4, h12, h13, hO, hr, hlen⟩
    refine awp_of wide0 _ _ _ ?_
    by_cases hex : x = [] ∨ y = []
    · have hmr : mrg f o s x y = (if f then x else []) ++ (if s then y else []) := by
        rcases hex with rfl | rfl
        · cases y <;> simp [mrg]
        · cases x <;> simp [mrg]
      rw [hmr] at hr
      have hg : (¬ 0 < x.length) ∨ (0 < x.length ∧ ¬ 0 < y.length) := by
        rcases hex with rfl | rfl
        · exact .inl (by simp)
        · cases x with
          | nil => exact .inl (by simp)
          | cons p x => exact .inr ⟨by simp, by simp⟩
      rcases hg with hg | ⟨hg, hg'⟩
      all_goals first
        | simp [hn, h0, h1, h2, h3, h4, h12, h13, encInts, guardVal, hg, hg']
        | simp [hn, h0, h1, h2, h3, h4, h12, h13, encInts, guardVal, hg]
      all_goals
        refine awp_loop (fun m st => ∃ i : Nat, m = x.length - i ∧ i ≤ x.length ∧ st.n = 100 ∧ st.slot 1 = .l (.d (encInts y)) ∧ st.slot 2 = bV f ∧ st.slot 4 = bV s ∧ st.slot 12 = .l (.ptr [12] 1 0) ∧
          st.slot 13 = .l (.clo 28 [([12], 1)]) ∧ st.slot 77 = .l (.d (encInts x)) ∧ st.slot 78 = iV x.length ∧ st.slot 79 = iV i ∧ Out st.mem 1 (out ++ if f then x.take i else [])) _ ⟨0, rfl, ?_⟩ ?_
        · simp [hn, h0, h1, h2, h4, h12, h13, encInts, iV, hO]
        · clear hn h0 h1 h2 h3 h4 h12 h13 hO st
          rintro m st ⟨i, rfl, hi, hn, h1, h2, h4, h12, h13, h77, h78, h79, hO⟩
          refine awp_of wide0 _ _ _ ?_
          by_cases hlt : i < x.length
          · obtain ⟨v, hv, hv2, _, hd⟩ := drop_get hlt
            simp [hn, h1, h2, h4, h12, h13, h77, h78, h79, encInts, iV, iD, guardVal, hlt, hv]
            refine put_call (n := 1) (out := out ++ if f then x.take i else []) (w := f) (v := v) (by cases f <;> simp <;> omega) (by simp [h13]) (by simpa using hO) (by simp [h2, bV]) (by simp [iV]) (by simp [hn]) fun m' hO' => ?_
            simp [hn, h1, h2, h4, h12, h13, h77, h78, h79, encInts, iV, iD]
            refine ⟨_, by omega, i + 1, rfl, hlt, wrapS hlt (by simp [maxLen]; omega), ?_⟩
            have : (out ++ if f = true then x.take (i + 1) else []) = (out ++ if f = true then x.take i else []) ++ if f = true then [v] else [] := by
              cases f <;> simp [List.take_add_one, hv2]
            rw [this]
            exact hO'
          · have hix : i = x.length := by omega
            subst hix
            simp only [List.take_length] at hO
            simp [hn, h1, h2, h4, h12, h13, h77, h78, h79, encInts, iV, iD, guardVal]
            refine awp_loop (fun m st => ∃ i : Nat, m = y.length - i ∧ i ≤ y.length ∧ st.n = 100 ∧ st.slot 4 = bV s ∧ st.slot 12 = .l (.ptr [12] 1 0) ∧
              st.slot 13 = .l (.clo 28 [([12], 1)]) ∧ st.slot 88 = .l (.d (encInts y)) ∧ st.slot 89 = iV y.length ∧ st.slot 90 = iV i ∧ Out st.mem 1 ((out ++ if f then x else []) ++ if s then y.take i else [])) _ ⟨0, rfl, ?_⟩ ?_
            · simp [hn, h1, h2, h4, h12, h13, encInts, iV, iD]
              simpa using hO
            · clear hn h1 h2 h4 h12 h13 h77 h78 h79 hlt hi hO st
              rintro m st ⟨i, rfl, hi, hn, h4, h12, h13, h88, h89, h90, hO⟩
              refine awp_of wide0 _ _ _ ?_
              by_cases hlt : i < y.length
              · obtain ⟨v, hv, hv2, _, hd⟩ := drop_get hlt
                simp [hn, h4, h12, h13, h88, h89, h90, encInts, iV, iD, guardVal, hlt, hv]
                refine put_call (n := 1) (out := (out ++ if f then x else []) ++ if s then y.take i else []) (w := s) (v := v) (by cases f <;> cases s <;> simp <;> omega) (by simp [h13]) (by simpa using hO) (by simp [h4, bV]) (by simp [iV]) (by simp [hn]) fun m' hO' => ?_
                simp [hn, h4, h12, h13, h88, h89, h90, encInts, iV, iD]
                refine ⟨_, by omega, i + 1, rfl, hlt, wrapS hlt (by simp [maxLen]; omega), ?_⟩
                have : (out ++ ((if f = true then x else []) ++ if s = true then y.take (i + 1) else [])) = (out ++ if f = true then x else []) ++ (if s = true then y.take i else []) ++ if s = true then [v] else [] := by
                  cases s <;> simp [List.take_add_one, hv2]
                rw [this]
                exact hO'
              · have hiy : i = y.length := by omega
                subst hiy
                simp only [List.take_length, List.append_assoc] at hO
                rw [← hr] at hO
                obtain ⟨leaf, hc, hl⟩ := hO
                rcases hl with ⟨rfl, he⟩ | ⟨q, rfl, hq⟩
                · simp [hn, h4, h12, h13, h88, h89, h90, encInts, iV, iD, guardVal, hc, Post, finish, he]
                · simp [hn, h4, h12, h13, h88, h89, h90, encInts, iV, iD, guardVal, hc, hq, Post, finish, cells]
    · cases x with
      | nil => exact absurd (.inl rfl) hex
      | cons p x =>
      cases y with
      | nil => exact absurd (.inr rfl) hex
      | cons q y =>
        simp [hn, h0, h1, h2, h3, h4, h12, h13, encInts, guardVal, show (0 : Int) < (x.length : Int) + 1 by omega, show (0 : Int) < (y.length : Int) + 1 by omega]
        refine awp_drawn wide0 mixed [] [] (by kernel_rfl) ?_
        simp at hlen
        rcases cmp p q with ⟨c1, c2, c3, c4, c5, c6⟩ | ⟨rfl, c2, c3⟩ | ⟨c1, c2, c3, c4, c5, c6⟩
        · simp [hn, h0, h1, h2, h3, h4, h12, h13, encInts, guardVal, iD, c1]
          refine put_call (n := 1) (out := out) (w := f) (v := p) (by omega) (by simp [h13]) (by simpa using hO) (by simp [h2, bV]) (by simp [iV]) (by simp [hn]) fun m' hO' => ?_
          simp [hn, h0, h1, h2, h3, h4, h12, h13, encInts, iD, effSlice, hO', show (1 : Int) ≤ (x.length : Int) + 1 by omega]
          refine ⟨(x).length + (q :: y).length, by simp <;> omega, x, q :: y, rfl, ?_⟩
          exact ⟨by first | rfl | (rw [List.take_of_length_le (by simp)]), by first | rfl | (rw [List.take_of_length_le (by simp)]), _, hO', by rw [hr]; simp [mrg, c1], by cases f <;> simp <;> omega⟩
        · simp [hn, h0, h1, h2, h3, h4, h12, h13, encInts, guardVal, iD]
          refine awp_drawn wide0 mixed [] [] (by kernel_rfl) ?_
          simp [hn, h0, h1, h2, h3, h4, h12, h13, encInts, guardVal, iD]
          refine put_call (n := 1) (out := out) (w := o) (v := p) (by omega) (by simp [h13]) (by simpa using hO) (by simp [h3, bV]) (by simp [iV]) (by simp [hn]) fun m' hO' => ?_
          simp [hn, h0, h1, h2, h3, h4, h12, h13, encInts, iD]
          refine awp_drawn wide0 mixed [] [] (by kernel_rfl) ?_
          simp [hn, h0, h1, h2, h3, h4, h12, h13, encInts, iD, effSlice, show (1 : Int) ≤ (x.length : Int) + 1 by omega, show (1 : Int) ≤ (y.length : Int) + 1 by omega]
          refine ⟨(x).length + (y).length, by omega, x, y, rfl, ?_⟩
          exact ⟨by first | rfl | (rw [List.take_of_length_le (by simp)]), by first | rfl | (rw [List.take_of_length_le (by simp)]), _, hO', by rw [hr]; simp [mrg], by cases o <;> simp <;> omega⟩
        · simp [hn, h0, h1, h2, h3, h4, h12, h13, encInts, guardVal, iD, c1, c2, c3, c4]
          refine awp_drawn wide0 mixed [] [] (by kernel_rfl) ?_
          simp [hn, h0, h1, h2, h3, h4, h12, h13, encInts, guardVal, iD, c1, c2, c3, c4]
          refine put_call (n := 1) (out := out) (w := s) (v := q) (by omega) (by simp [h13]) (by simpa using hO) (by simp [h4, bV]) (by simp [iV]) (by simp [hn]) fun m' hO' => ?_
          simp [hn, h0, h1, h2, h3, h4, h12, h13, encInts, iD, effSlice, hO', show (1 : Int) ≤ (y.length : Int) + 1 by omega]
          refine ⟨(p :: x).length + (y).length, by simp <;> omega, p :: x, y, rfl, ?_⟩
          exact ⟨by first | rfl | (rw [List.take_of_length_le (by simp)]), by first | rfl | (rw [List.take_of_length_le (by simp)]), _, hO', by rw [hr]; simp [mrg, c1, c3], by cases s <;> simp <;> omega⟩
end Go.Proofs.Ytfnplmglpbihhaa.Vm
