/- Copies; the fixed fact. -/
import Derived.Test.YtfnplmglpbihhaaFj
import Derived.Test.YtfnplmglpbihhaaFg
import Derived.Test.YtfnplmglpbihhaaF27
namespace Go.Proofs.Ytfnplmglpbihhaa.Vm
open Go Go.RowKit
set_option maxRecDepth 10000
set_option linter.unusedSimpArgs false

theorem v7 (l : List Pst) (hl : l.length ≤ 1000000) (hp : ∀ p ∈ l, p.places.length ≤ 1000000) : VFun Try.prog 7 [.l (.d (encPosts l))] [.l (.d (encPosts l))] [] := by
  refine vfun_of (rslots := [2]) (rmds := [.l .d]) (cmds := []) Try.func7 rfl rfl (by simp [Try.ntmps7]) (awp_of wide0 _ _ _ ?_)
  simp [Try.ntmps7, encPosts]
  refine awp_loop (fun m st => ∃ i : Nat, m = l.length - i ∧ i ≤ l.length ∧ st.n = 28 ∧ st.slot 0 = .l (.d (encPosts l)) ∧ st.slot 4 = iV i ∧ Acc st 3 26 35 2 ((l.take i).map encPost)) _ ⟨0, rfl, ?_⟩ ?_
  · simp [encPosts, iV, Acc]
  · rintro m st ⟨i, rfl, hi, hn, h0, h4, hA⟩
    refine awp_of wide0 _ _ _ ?_
    by_cases hlt : i < l.length
    · obtain ⟨x, hg, hg2, hmem, hd⟩ := drop_get hlt
      have hx := hp x hmem
      have e3 : x.places.length * 8 ≤ 140737488355328 := by omega
      have e4 : x.places.length ≤ maxLen := by simp [maxLen]; omega
      have e1 : (i + 1) * 32 ≤ 140737488355328 := by omega
      have e2 : i + 1 ≤ maxLen := by simp [maxLen]; omega
      simp [hn, h0, h4, encPosts, encPost, iV, iD, hlt, hg]
      refine awp_drawn wide0 mixed [6, 12, 14, 15] [] (by kernel_rfl) ?_
      rcases hA with ⟨q1, q2⟩ | ⟨n, q1, q2⟩
      · simp [hn, h0, h4, q1, encPosts, encPost, encInts, iV, iD, hlt, hg, effBuild, effBuildSlice, effAppend, fillL, overlay, chunks, mset_other, max1, e3, e4]
        exact ⟨_, by omega, i + 1, rfl, hlt, wrapS hlt (by simp [maxLen]; omega), .inr ⟨_, by simp <;> rfl, by simp only [put_mem, setm_mem, mset_self]; rw [List.take_add_one, List.getElem?_map, hg2, ← List.map_take, q2]; simp [encPost, encInts, iD]⟩⟩
      · simp [hn, h0, h4, q1, q2, encPosts, encPost, encInts, iV, iD, hlt, hg, effBuild, effBuildSlice, effAppend, fillL, overlay, chunks, mset_other, e3, e4, Nat.min_eq_left hi, e1, e2]
        exact ⟨_, by omega, i + 1, rfl, hlt, wrapS hlt (by simp [maxLen]; omega), .inr ⟨_, by simp <;> rfl, by simp only [put_mem, setm_mem, mset_self]; rw [List.take_add_one, List.getElem?_map, hg2]; simp [encPost, encInts, iD]⟩⟩
    · have hil : i = l.length := by omega
      subst hil
      rw [List.take_length] at hA
      rcases hA with ⟨q1, q2⟩ | ⟨n, q1, q2⟩
      · have : l = [] := by simpa using q2
        simp [hn, h0, h4, q1, encPosts, iV, iD, Post, finish, this]
      · simp [hn, h0, h4, q1, q2, encPosts, iV, iD, Post, finish]

theorem v13 (a b : List Int) (ha : a.length ≤ 10000) (hb : b.length ≤ 10000) (h27a : risesGo (-1) a = true) (h27b : risesGo (-1) b = true) :
    VFun Try.prog 13 [.l (.d (encInts a)), .l (.d (encInts b))] [.l (.d (encInts (mrg false true false a b))), .l (.d (iD 0))] [] := by
  refine vfun_of (rslots := [4, 5]) (rmds := [.l .d, .l .d]) (cmds := []) Try.func13 rfl rfl (by simp [Try.ntmps13]) (awp_of wide0 _ _ _ ?_)
  simp [Try.ntmps13]
  refine vcall_of [.l .d, .l .d, .l .d, .l .d, .l .d] (v24 a b false true false ha hb (by have := v27 a (by simp [maxLen]; omega); rw [h27a] at this; exact this) (by have := v27 b (by simp [maxLen]; omega); rw [h27b] at this; exact this)) rfl cp24 (by simp <;> rfl) (by simp <;> rfl) (by simp [Try.ntmps13]) ?_
  simp [Try.ntmps13, bindRes, Post, finish]

theorem v5 : VFun Try.prog 5 [] [.l (.d (.v (.bool true)))] [] := by
  refine vfun_of (rslots := [0]) (rmds := [.l .d]) (cmds := []) Try.func5 rfl rfl (by simp [Try.ntmps5]) (awp_of wide0 _ _ _ ?_)
  simp [Try.ntmps5, effBuildSlice, fillL, overlay, chunks, mset_other]
  refine vcall_of [.l .d, .l .d] (v13 [1, 3, 5] [3, 4, 5] (by simp) (by simp) (by decide) (by decide)) rfl cp13 (by simp [mset_other, effBuildSlice, fillL, overlay, chunks, encInts, iD, List.range, List.range.loop] <;> rfl) (by simp <;> rfl) (by simp [Try.ntmps5]) ?_
  have hm : mrg false true false [1, 3, 5] [3, 4, 5] = [3, 5] := by simp [mrg]
  rw [hm]
  simp [Try.ntmps5, bindRes, effBuild, effBuildSlice, fillL, overlay, chunks, mset_other, List.range, List.range.loop]
  have hfit : Fits [[⟨2, [0, 4]⟩], [⟨2, [5]⟩]] := by
    refine ⟨by simp, fun l hl => ?_⟩
    simp at hl
    rcases hl with rfl | rfl <;> simp
  refine vcall_of [.l .d] (v8 [[⟨2, [0, 4]⟩], [⟨2, [5]⟩]] hfit) rfl cp8 (by simp [encLists, encPosts, encPost, encInts, iD] <;> rfl) (by simp <;> rfl) (by simp [Try.ntmps5]) ?_
  have hph : phrase [[⟨2, [0, 4]⟩], [⟨2, [5]⟩]] = ([⟨2, [4]⟩], 0) := by decide
  rw [hph]
  simp [Try.ntmps5, bindRes, encPosts, encPost, iD, guardVal, effBuildSlice, fillL, overlay, chunks, mset_other, List.range, List.range.loop]
  refine vcall_of [.l .d, .l .d] (v14 [3, 5] [3, 5] (by simp [maxLen])) rfl cp14 (by simp [encInts, iD, mset_other] <;> rfl) (by simp <;> rfl) (by simp [Try.ntmps5]) ?_
  simp [Try.ntmps5, bindRes, encPosts, encPost, encInts, iD, guardVal, effBuildSlice, fillL, overlay, chunks, mset_other, List.range, List.range.loop]
  refine vcall_of [.l .d, .l .d] (v14 [4] [4] (by simp [maxLen])) rfl cp14 (by simp [encInts, iD, mset_other] <;> rfl) (by simp <;> rfl) (by simp [Try.ntmps5]) ?_
  simp [Try.ntmps5, bindRes, Post, finish]
end Go.Proofs.Ytfnplmglpbihhaa.Vm
