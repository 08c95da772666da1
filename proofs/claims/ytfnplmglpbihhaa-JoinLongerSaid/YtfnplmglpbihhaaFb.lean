/- Functions over posts. -/
import Derived.Test.YtfnplmglpbihhaaFa
namespace Go.Proofs.Ytfnplmglpbihhaa.Vm
open Go Go.RowKit
set_option maxRecDepth 10000
set_option linter.unusedSimpArgs false

theorem v21 (p q : Pst) (hl : p.places.length ≤ maxLen) : VFun Try.prog 21 [.agg [.d (iD p.doc), .d (encInts p.places)], .agg [.d (iD q.doc), .d (encInts q.places)]] [.l (.d (.v (.bool (decide (p = q)))))] [] := by
  refine vfun_of (rslots := [4]) (rmds := [.l .d]) (cmds := []) Try.func21 rfl rfl (by simp [Try.ntmps21]) (awp_of wide0 _ _ _ ?_)
  have e : (p = q) = (p.doc = q.doc ∧ p.places = q.places) := by cases p; cases q; simp
  by_cases c : p.doc = q.doc
  · simp [Try.ntmps21, effNew, mset_other, iD, c, guardVal]
    refine vcall_of [.l .d, .l .d] (v14 p.places q.places hl) rfl cp14 (by simp [effNew, mset_other] <;> rfl) (by simp <;> rfl) (by simp [Try.ntmps21]) ?_
    simp [Try.ntmps21, bindRes, Post, finish, e, c]
  · simp [Try.ntmps21, effNew, mset_other, iD, c, guardVal, Post, finish, e]

theorem v22 (l : List Int) (most : Int) (hl : l.length ≤ maxLen) : VFun Try.prog 22 [.l (.d (encInts l)), .l (.d (iD most))] [.l (.d (.v (.bool (upTo (-1) most l))))] [] := by
  refine vfun_of (rslots := [4]) (rmds := [.l .d]) (cmds := []) Try.func22 rfl rfl (by simp [Try.ntmps22]) (awp_of wide0 _ _ _ ?_)
  simp [Try.ntmps22, encInts]
  refine awp_loop (fun m st => ∃ (i : Nat) (last : Int), m = l.length - i ∧ i ≤ l.length ∧ st.n = 41 ∧ st.slot 0 = .l (.d (encInts l)) ∧ st.slot 1 = iV most ∧ st.slot 5 = iV i ∧ upTo (-1) most l = upTo last most (l.drop i) ∧
    (if i = 0 then last = -1 else l[i - 1]? = some last ∧ 0 ≤ last)) _ ⟨0, -1, rfl, ?_⟩ ?_
  · simp [encInts, iV, iD]
  · rintro m st ⟨i, last, rfl, hi, hn, h0, h1, h5, hr, hlast⟩
    refine awp_of wide0 _ _ _ ?_
    by_cases hlt : i < l.length
    · obtain ⟨x, hg, hg2, _, hd⟩ := drop_get hlt
      simp [hn, h0, h1, h5, encInts, iV, iD, hlt, hg]
      refine awp_drawn wide0 mixed [] [] (by kernel_rfl) ?_
      by_cases hz : i = 0
      · subst hz
        simp only [if_true] at hlast
        subst hlast
        rcases lge x 0 with ⟨c1, d1⟩ | ⟨c1, d1⟩ <;> rcases lge most x with ⟨c2, d2⟩ | ⟨c2, d2⟩ <;>
        simp [hn, h0, h1, h5, encInts, iV, iD, hlt, hg, guardVal, Post, finish, hr, hd, upTo, c1, d1, c2, d2]
        · intro h; omega
        · exact ⟨_, by omega, 1, rfl, hlt, rfl, x, by simp [show ¬ x ≤ -1 by omega], by simp [hg2, c1]⟩
      · simp only [hz, if_false] at hlast
        obtain ⟨hl1, hl2⟩ := hlast
        have hi1 : i - 1 < l.length := by omega
        have hw : IntKind.i64.wrap ((i : Int) - 1) = ((i - 1 : Nat) : Int) := by
          rw [wrap64 (by omega) (by simp [maxLen] at hl; omega)]; omega
        have hl1' : l[i - 1] = last := by
          rw [List.getElem?_eq_getElem hi1] at hl1
          simpa using hl1
        rcases lge last x with ⟨c1, d1⟩ | ⟨c1, d1⟩ <;> rcases lge most x with ⟨c2, d2⟩ | ⟨c2, d2⟩ <;> rcases lge x 0 with ⟨c3, d3⟩ | ⟨c3, d3⟩ <;>
        simp [hn, h0, h1, h5, encInts, iV, iD, hlt, hg, guardVal, Post, finish, hr, hd, upTo, c1, d1, c2, d2, c3, d3, hw, hi1, hl1', hz, Nat.pos_of_ne_zero hz]
        · omega
        · exact ⟨_, by omega, i + 1, rfl, hlt, wrapS hlt hl, x, rfl, by simp [hg2, c3]⟩
    · simp [hn, h0, h1, h5, encInts, iV, hlt, Post, finish, hr, List.drop_eq_nil_of_le (Nat.not_lt.1 hlt), upTo]

theorem max1 : 1 ≤ maxLen := by decide

theorem v23 (l : List Pst) (hl : l.length ≤ maxLen) (hb : l.length ≤ 1000000) : VFun Try.prog 23 [.l (.d (encPosts l))] [.l (.d (encInts (l.map (·.doc))))] [] := by
  refine vfun_of (rslots := [2]) (rmds := [.l .d]) (cmds := []) Try.func23 rfl rfl (by simp [Try.ntmps23]) (awp_of wide0 _ _ _ ?_)
  simp [Try.ntmps23, encPosts]
  refine awp_loop (fun m st => ∃ i : Nat, m = l.length - i ∧ i ≤ l.length ∧ st.n = 20 ∧ st.slot 0 = .l (.d (encPosts l)) ∧ st.slot 4 = iV i ∧
    ((i = 0 ∧ st.slot 3 = .l .nil) ∨ ∃ n, st.slot 3 = .l (.own [18] n) ∧ st.mem [18] = (n, .row 3 1 ((l.take i).map fun p => [iD p.doc])))) _ ⟨0, rfl, ?_⟩ ?_
  · simp [encPosts, iV]
  · rintro m st ⟨i, rfl, hi, hn, h0, h4, hr⟩
    refine awp_of wide0 _ _ _ ?_
    by_cases hlt : i < l.length
    · obtain ⟨x, hg, hg2, _, hd⟩ := drop_get hlt
      have htk : l.take (i + 1) = l.take i ++ [x] := by rw [List.take_add_one, hg2]; rfl
      rcases hr with ⟨rfl, h3⟩ | ⟨n, h3, hm⟩
      · simp [hn, h0, h4, h3, encPosts, encPost, iV, iD, hlt, hg, effBuildSlice, effAppend, fillL, overlay, chunks, mset_other, max1]
        exact ⟨_, by omega, 1, rfl, hlt, rfl, by simp [List.take_add_one, hg2]⟩
      · simp [hn, h0, h4, h3, hm, encPosts, encPost, iV, iD, hlt, hg, effBuildSlice, effAppend, fillL, overlay, chunks, mset_other, Nat.min_eq_left hi, show (i + 1) * 8 ≤ 140737488355328 by omega, show i + 1 ≤ maxLen by omega]
        exact ⟨_, by omega, i + 1, rfl, hlt, wrapS hlt hl, by simp [List.take_add_one, hg2]⟩
    · have hil : i = l.length := by omega
      rcases hr with ⟨rfl, h3⟩ | ⟨n, h3, hm⟩
      · have : l = [] := List.eq_nil_of_length_eq_zero hil.symm
        simp [hn, h0, h4, h3, encPosts, encPost, iV, iD, hlt, Post, finish, this, encInts]
      · subst hil
        simp [hn, h0, h4, h3, hm, encPosts, encPost, encInts, iV, iD, Post, finish]
end Go.Proofs.Ytfnplmglpbihhaa.Vm
