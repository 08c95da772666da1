/- The law over any lists of posts: the phrase found is the document's. -/
import Derived.Test.YtfnplmglpbihhaaFk
import Derived.Test.YtfnplmglpbihhaaFf
import Derived.Test.YtfnplmglpbihhaaFp
namespace Go.Proofs.Ytfnplmglpbihhaa.Vm
open Go Go.RowKit
set_option maxRecDepth 10000
set_option linter.unusedSimpArgs false

theorem v3 (ls : List (List Pst)) (h1 : ls.length ≤ maxLen) (h2 : ∀ l ∈ ls, l.length ≤ maxLen) : VFun Try.prog 3 [.l (.d (encLists ls))] [.l (.d (.v (.bool true)))] [] := by
  refine vfun_of (rslots := [2]) (rmds := [.l .d]) (cmds := []) Try.func3 rfl rfl (by simp [Try.ntmps3]) (awp_of wide0 _ _ _ ?_)
  simp [Try.ntmps3]
  refine vcall_of [] v5 rfl cp5 (by simp <;> rfl) (by simp <;> rfl) (by simp [Try.ntmps3]) ?_
  simp [Try.ntmps3, bindRes]
  refine vcall_of [.l .d] (v6 ls h1 h2) rfl cp6 (by simp <;> rfl) (by simp <;> rfl) (by simp [Try.ntmps3]) ?_
  cases hg : great ls with
  | true => simp [Try.ntmps3, bindRes, Post, finish]
  | false =>
    obtain ⟨g1, g2⟩ := great_fits hg
    have hf : Fits ls := ⟨by omega, fun l hl => ⟨by have := (g2 l hl).1; omega, fun p hp => by have := (g2 l hl).2 p hp; omega⟩⟩
    obtain ⟨s1, s2⟩ := phrase_small hf
    simp [Try.ntmps3, bindRes]
    refine awp_loop (fun m st => ∃ i : Nat, m = ls.length - i ∧ i ≤ ls.length ∧ st.n = 68 ∧ st.slot 0 = .l (.d (encLists ls)) ∧ st.slot 4 = iV i ∧ Acc st 3 27 25 1 ((ls.take i).map fun x => [encPosts x])) _ ⟨0, rfl, ?_⟩ ?_
    · simp [iV, Acc]
    · rintro m st ⟨i, rfl, hi, hn, h0, h4, hA⟩
      refine awp_of wide0 _ _ _ ?_
      by_cases hlt : i < ls.length
      · obtain ⟨x, hx, hx2, hmem, hd⟩ := drop_get hlt
        have hxb := hf.2 x hmem
        have e1 : (i + 1) * 24 ≤ 140737488355328 := by omega
        have e2 : i + 1 ≤ maxLen := by simp [maxLen]; omega
        simp [hn, h0, h4, encLists, iV, iD, hlt, hx]
        refine vcall_of [.l .d] (v7 x hxb.1 hxb.2) rfl cp7 (by simp <;> rfl) (by simp <;> rfl) (by simp [hn]) ?_
        rcases hA with ⟨q1, q2⟩ | ⟨n, q1, q2⟩
        · simp [hn, h0, h4, q1, encLists, iV, iD, bindRes, effBuildSlice, effAppend, fillL, overlay, chunks, mset_other, max1]
          exact ⟨_, by omega, i + 1, rfl, hlt, wrapS hlt h1, .inr ⟨_, by simp <;> rfl, by simp only [put_mem, setm_mem, mset_self]; rw [List.take_add_one, List.getElem?_map, hx2, ← List.map_take, q2]; simp⟩⟩
        · simp [hn, h0, h4, q1, q2, encLists, iV, iD, bindRes, effBuildSlice, effAppend, fillL, overlay, chunks, mset_other, Nat.min_eq_left hi, e1, e2]
          exact ⟨_, by omega, i + 1, rfl, hlt, wrapS hlt h1, .inr ⟨_, by simp <;> rfl, by simp only [put_mem, setm_mem, mset_self]; rw [List.take_add_one, List.getElem?_map, hx2]; simp⟩⟩
      · have hil : i = ls.length := by omega
        subst hil
        rw [List.take_length] at hA
        have hR : (st.slot 3 = .l .nil ∧ ls = []) ∨ ∃ n, st.slot 3 = .l (.own [27] n) ∧ st.mem [27] = (n, .row 25 1 (ls.map fun x => [encPosts x])) := by
          rcases hA with ⟨q1, q2⟩ | ⟨n, q1, q2⟩
          · exact .inl ⟨q1, by simpa using q2⟩
          · exact .inr ⟨n, q1, q2⟩
        simp [hn, h0, h4, iV, iD, encLists]
        rcases hR with ⟨q1, q2⟩ | ⟨n, q1, q2⟩
        · subst q2
          refine vcall_of [.l .d] (v8 [] hf) rfl cp8 (by simp [q1, encLists] <;> rfl) (by simp <;> rfl) (by simp [hn]) ?_
          simp [hn, h0, h4, q1, bindRes, encLists]
          refine vcall_of [.l .d] (v9 [] hf) rfl cp9 (by simp [encLists] <;> rfl) (by simp <;> rfl) (by simp [hn]) ?_
          simp [hn, h0, h4, q1, bindRes, encLists]
          refine vcall_of [.l .d, .l .d] (v10 [] [] (by simp) (by simp)) rfl cp10 (by simp [phrase, refPhrase] <;> rfl) (by simp <;> rfl) (by simp [hn]) ?_
          simp [hn, h0, h4, q1, bindRes, encLists, iD, phrase, refPhrase, guardVal]
          refine vcall_of [.l .d] (v11 [] (by simp) (by simp) (by simp)) rfl cp11 (by simp <;> rfl) (by simp <;> rfl) (by simp [hn]) ?_
          simp [hn, h0, h4, q1, bindRes, encLists, iD, phrase, refPhrase, guardVal, formed, upTo]
          refine awp_loop (fun m st => st.n = 68 ∧ st.slot 0 = .l (.d (.sl [])) ∧ st.slot 9 = iV 0) 0 ?_ ?_
          · simp [hn, h0, iV, encLists]
          · rintro m st ⟨hn, h0, h9⟩
            refine awp_of wide0 _ _ _ ?_
            simp [hn, h0, h9, iV, Post, finish]
        · refine vcall_of [.l .d] (v8 ls hf) rfl cp8 (by simp [q1, q2, encLists] <;> rfl) (by simp <;> rfl) (by simp [hn]) ?_
          simp [hn, h0, h4, q1, bindRes, encLists]
          refine vcall_of [.l .d] (v9 ls hf) rfl cp9 (by simp [encLists] <;> rfl) (by simp <;> rfl) (by simp [hn]) ?_
          simp [hn, h0, h4, q1, bindRes, encLists]
          refine vcall_of [.l .d, .l .d] (v10 (phrase ls).1 (refPhrase ls).1 (by simp [maxLen]; omega) (fun p hp => by have := s2 p hp; simp [maxLen]; omega)) rfl cp10 (by simp <;> rfl) (by simp <;> rfl) (by simp [hn]) ?_
          rw [← phrase_eq]
          simp [hn, h0, h4, q1, bindRes, encLists, iD, guardVal]
          refine vcall_of [.l .d] (v11 (phrase ls).1 (by simp [maxLen]; omega) s1 (fun p hp => by have := s2 p hp; simp [maxLen]; omega)) rfl cp11 (by simp <;> rfl) (by simp <;> rfl) (by simp [hn]) ?_
          rw [phrase_formed]
          simp [hn, h0, h4, q1, bindRes, encLists, iD, guardVal]
          refine awp_loop (fun m st => ∃ i : Nat, m = ls.length - i ∧ i ≤ ls.length ∧ st.n = 68 ∧ st.slot 0 = .l (.d (encLists ls)) ∧ st.slot 9 = iV i ∧ st.slot 3 = .l (.own [27] n) ∧ st.mem [27] = (n, .frz 1 (ls.map fun x => [encPosts x]))) _ ⟨0, rfl, ?_⟩ ?_
          · simp [hn, h0, q1, iV, encLists]
          · clear hn h0 h4 q1 q2 hi hA hlt st
            rintro m st ⟨i, rfl, hi, hn, h0, h9, h3, hm⟩
            refine awp_of wide0 _ _ _ ?_
            by_cases hlt : i < ls.length
            · obtain ⟨x, hx, hx2, hmem, hd⟩ := drop_get hlt
              have hxb := hf.2 x hmem
              simp [hn, h0, h9, h3, hm, iV, encLists, hlt, hx]
              refine awp_drawn wide0 mixed [8] [[27]] (by kernel_rfl) ?_
              simp [hn, h0, h9, h3, hm, iV, encLists, hlt, hx]
              refine vcall_of [.l .d, .l .d] (v10 x x (by simp [maxLen]; omega) (fun p hp => by have := hxb.2 p hp; simp [maxLen]; omega)) rfl cp10 (by simp <;> rfl) (by simp <;> rfl) (by simp [hn]) ?_
              simp [hn, h0, h9, h3, hm, iV, encLists, hlt, hx, bindRes]
              exact ⟨_, by omega, i + 1, rfl, hlt, wrapS hlt h1⟩
            · simp [hn, h0, h9, h3, hm, iV, encLists, hlt, Post, finish]
end Go.Proofs.Ytfnplmglpbihhaa.Vm
