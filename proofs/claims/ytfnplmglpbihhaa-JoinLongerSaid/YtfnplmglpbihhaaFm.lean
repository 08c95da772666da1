/- The law over any lists of posts and one more: a longer phrase begins where its beginning begins. -/
import Derived.Test.YtfnplmglpbihhaaFl
namespace Go.Proofs.Ytfnplmglpbihhaa.Vm
open Go Go.RowKit
set_option maxRecDepth 10000
set_option linter.unusedSimpArgs false
set_option linter.unusedVariables false

theorem phr_snoc (more : List Pst) : ∀ (ls : List (List Pst)) (k : Nat) (found : List Pst), phr k found (ls ++ [more]) = behindGo (k + ls.length + 1) more (phr k found ls)
  | [], k, found => rfl
  | l :: ls, k, found => by
    show phr (k + 1) (behindGo (k + 1) l found) (ls ++ [more]) = _
    rw [phr_snoc more ls]
    show behindGo (k + 1 + ls.length + 1) more _ = behindGo (k + (ls.length + 1) + 1) more _
    rw [show k + 1 + ls.length + 1 = k + (ls.length + 1) + 1 by omega]
    rfl

theorem phrase_code (ls : List (List Pst)) : (phrase ls).2 = 0 ∧ ls ≠ [] ∧ ls.all formed = true ∨ (phrase ls).2 = 1 ∧ (phrase ls).1 = [] ∧ (ls = [] ∨ ls.all formed = false) := by
  cases ls with
  | nil => exact .inr ⟨rfl, rfl, .inl rfl⟩
  | cons l ls =>
    rw [phrase_cons]
    by_cases h : (l :: ls).all formed = true
    · rw [if_pos h]; exact .inl ⟨rfl, by simp, h⟩
    · rw [if_neg h]; exact .inr ⟨rfl, rfl, .inr (by simpa using h)⟩

theorem phrase_one {more : List Pst} (h : (phrase [more]).2 = 0) : (phrase [more]).1 = more := by
  rw [phrase_cons] at h ⊢
  by_cases hf : [more].all formed = true
  · rw [if_pos hf]; rfl
  · rw [if_neg hf] at h; cases h

theorem phrase_longer {ls : List (List Pst)} {more : List Pst} (he : (phrase (ls ++ [more])).2 = 0) (hg : (phrase ls).2 = 0) :
    ∀ x ∈ (phrase (ls ++ [more])).1, ∀ a ∈ x.places, ∃ y ∈ (phrase ls).1, y.doc = x.doc ∧ a ∈ y.places := by
  cases ls with
  | nil => cases hg
  | cons l ls =>
    rw [List.cons_append, phrase_cons] at he ⊢
    rw [phrase_cons] at hg ⊢
    split at he
    · split at hg
      · rename_i h1 h2
        rw [if_pos h1, if_pos h2]
        show ∀ x ∈ phr 0 l (ls ++ [more]), _
        rw [phr_snoc]
        intro x hx a ha
        obtain ⟨y, hy, h3, h4, _⟩ := behindGo_mem _ _ _ x hx
        exact ⟨y, hy, h3.symm, h4.subset ha⟩
      · cases hg
    · cases he

theorem phrase_fails {ls : List (List Pst)} {more : List Pst} (h : (phrase (ls ++ [more])).2 ≠ 0 ∨ (phrase ls).2 ≠ 0) : (phrase (ls ++ [more])).1 = [] ∨ ls = [] := by
  rcases phrase_code (ls ++ [more]) with ⟨h1, h2, h3⟩ | ⟨h1, h2, _⟩
  · right
    rcases phrase_code ls with ⟨g1, _⟩ | ⟨g1, g2, g3⟩
    · rcases h with h | h
      · exact absurd h1 h
      · exact absurd g1 h
    · rcases g3 with g3 | g3
      · exact g3
      · rw [List.all_append, g3] at h3
        cases h3
  · exact .inl h2

theorem v4 (ls : List (List Pst)) (more : List Pst) (h1 : ls.length * 24 ≤ 140737488351232) (h2 : ∀ l ∈ ls, l.length ≤ maxLen) (h3 : more.length ≤ maxLen) :
    VFun Try.prog 4 [.l (.d (encLists ls)), .l (.d (encPosts more))] [.l (.d (.v (.bool true)))] [] := by
  refine vfun_of (rslots := [4]) (rmds := [.l .d]) (cmds := []) Try.func4 rfl rfl (by simp [Try.ntmps4]) (awp_of wide0 _ _ _ ?_)
  have e1 : ls.length * 24 ≤ 140737488355328 := by omega
  have e2 : ls.length ≤ maxLen := by simp [maxLen]; omega
  have e3 : (ls.length + 1) * 24 ≤ 140737488355328 := by omega
  have e4 : ls.length + 1 ≤ maxLen := by simp [maxLen]; omega
  have hall : ∀ l ∈ ls ++ [more], l.length ≤ maxLen := fun l hl => by
    rcases List.mem_append.1 hl with hl | hl
    · exact h2 l hl
    · simp at hl; exact hl ▸ h3
  have hmap : (ls ++ [more]).map (fun x => [encPosts x]) = ls.map (fun x => [encPosts x]) ++ [[encPosts more]] := by simp
  simp [Try.ntmps4]
  refine vcall_of [] v5 rfl cp5 (by simp <;> rfl) (by simp <;> rfl) (by simp [Try.ntmps4]) ?_
  simp [Try.ntmps4, bindRes, encLists, effBuildSlice, effAppend, fillL, overlay, chunks, mset_other, e1, e2, e3, e4]
  refine vcall_of [.l .d] (v6 (ls ++ [more]) (by simp; omega) hall) rfl cp6 (by simp [encLists, mset_other] <;> rfl) (by simp <;> rfl) (by simp [Try.ntmps4]) ?_
  cases hg : great (ls ++ [more]) with
  | true => simp [Try.ntmps4, bindRes, Post, finish]
  | false =>
    obtain ⟨g1, g2⟩ := great_fits hg
    have hf : Fits (ls ++ [more]) := ⟨by omega, fun l hl => ⟨by have := (g2 l hl).1; omega, fun p hp => by have := (g2 l hl).2 p hp; omega⟩⟩
    have hfl : Fits ls := ⟨by have := hf.1; simp at this; omega, fun l hl => hf.2 l (by simp [hl])⟩
    have hfm : Fits [more] := ⟨by simp, fun l hl => hf.2 l (by simp at hl; simp [hl])⟩
    have hmore := hf.2 more (by simp)
    obtain ⟨s1, s2⟩ := phrase_small hf
    obtain ⟨t1, t2⟩ := phrase_small hfl
    simp [Try.ntmps4, bindRes]
    refine vcall_of [.l .d] (v8 (ls ++ [more]) hf) rfl cp8 (by simp [encLists, mset_other] <;> rfl) (by simp <;> rfl) (by simp [Try.ntmps4]) ?_
    simp [Try.ntmps4, bindRes, effBuildSlice, fillL, overlay, chunks, mset_other]
    refine vcall_of [.l .d] (v8 [more] hfm) rfl cp8 (by simp [encLists, mset_other] <;> rfl) (by simp <;> rfl) (by simp [Try.ntmps4]) ?_
    have hlong := @phrase_longer ls more
    have hfail := @phrase_fails ls more
    have hone := phrase_one (more := more)
    have cO : (phrase [more]).2 = 0 ∨ (phrase [more]).2 = 1 := by rcases phrase_code [more] with ⟨h, _⟩ | ⟨h, _⟩ <;> simp [h]
    have cP : (phrase (ls ++ [more])).2 = 0 ∨ (phrase (ls ++ [more])).2 = 1 := by rcases phrase_code (ls ++ [more]) with ⟨h, _⟩ | ⟨h, _⟩ <;> simp [h]
    have cQ : (phrase ls).2 = 0 ∨ (phrase ls).2 = 1 := by rcases phrase_code ls with ⟨h, _⟩ | ⟨h, _⟩ <;> simp [h]
    have hv8 := v8 ls hfl
    generalize phrase (ls ++ [more]) = PP at *
    generalize phrase ls = QQ at *
    generalize phrase [more] = OO at *
    rcases cO with cO | cO
    · have ho := hone cO
      simp [Try.ntmps4, bindRes, iD, cO, ho, guardVal]
      refine vcall_of [.l .d, .l .d] (v10 more more h3 (fun p hp => by have := hmore.2 p hp; simp [maxLen]; omega)) rfl cp10 (by simp [mset_other] <;> rfl) (by simp <;> rfl) (by simp [Try.ntmps4]) ?_
      simp [Try.ntmps4, bindRes, iD, guardVal]
      refine vcall_of [.l .d] hv8 rfl cp8 (by simp [encLists, mset_other] <;> rfl) (by simp <;> rfl) (by simp [Try.ntmps4]) ?_
      by_cases cc : PP.2 = 0 ∧ QQ.2 = 0
      · obtain ⟨cP, cQ⟩ := cc
        have hlg := hlong cP cQ
        simp [Try.ntmps4, bindRes, iD, cP, cQ, guardVal, encPosts]
        refine awp_loop (fun m st => ∃ i : Nat, m = PP.1.length - i ∧ i ≤ PP.1.length ∧ st.n = 118 ∧ st.slot 6 = .l (.d (encPosts PP.1)) ∧ st.slot 10 = .l (.d (encPosts QQ.1)) ∧ st.slot 12 = iV i) _ ⟨0, rfl, ?_⟩ ?_
        · simp [encPosts, iV]
        · rintro m st ⟨i, rfl, hi, hn, h6, h10, h12⟩
          refine awp_of wide0 _ _ _ ?_
          by_cases hlt : i < PP.1.length
          · obtain ⟨x, hx, hx2, hxm, hxd⟩ := drop_get hlt
            have hxs := s2 x hxm
            have wi : IntKind.i64.wrap ((i : Int) + 1) = ((i + 1 : Nat) : Int) := wrapS hlt (by simp [maxLen]; omega)
            simp [hn, h6, h10, h12, encPosts, encPost, iV, iD, hlt, hx]
            refine awp_loop (fun m st => ∃ k : Nat, m = x.places.length - k ∧ k ≤ x.places.length ∧ st.n = 118 ∧ st.slot 6 = .l (.d (encPosts PP.1)) ∧ st.slot 10 = .l (.d (encPosts QQ.1)) ∧ st.slot 12 = iV i ∧ st.slot 13 = iV k) _ ⟨0, rfl, ?_⟩ ?_
            · simp [hn, h6, h10, h12, encPosts, iV]
            · clear hn h6 h10 h12 st
              rintro m st ⟨k, rfl, hk, hn, h6, h10, h12, h13⟩
              refine awp_of wide0 _ _ _ ?_
              by_cases hkl : k < x.places.length
              · obtain ⟨a, ha, ha2, ham, had⟩ := drop_get hkl
                have wk : IntKind.i64.wrap ((k : Int) + 1) = ((k + 1 : Nat) : Int) := wrapS hkl (by simp [maxLen]; omega)
                obtain ⟨y, hym, hyd, hya⟩ := hlg x hxm a ham
                simp [hn, h6, h10, h12, h13, encPosts, encPost, encInts, iV, iD, hlt, hx, hkl, ha]
                refine awp_loop (fun m st => ∃ j : Nat, m = QQ.1.length - j ∧ j ≤ QQ.1.length ∧ st.n = 118 ∧ st.slot 6 = .l (.d (encPosts PP.1)) ∧ st.slot 10 = .l (.d (encPosts QQ.1)) ∧ st.slot 12 = iV i ∧ st.slot 13 = iV k ∧ st.slot 15 = iV j ∧
                  ∃ bb : Nat, st.slot 14 = bV (decide (bb = 1)) ∧ (bb = 1 ∨ y ∈ QQ.1.drop j)) _ ⟨0, rfl, ?_⟩ ?_
                · refine ⟨Nat.zero_le _, by simp [hn], by simp [h6, encPosts], by simp [h10, encPosts], by simp [h12, iV], by simp [h13, iV], by simp [iV], 0, by simp [bV], .inr (by simpa using hym)⟩
                · clear hn h6 h10 h12 h13 st
                  rintro m st ⟨j, rfl, hj, hn, h6, h10, h12, h13, h15, bb, h14, hbb⟩
                  refine awp_of wide0 _ _ _ ?_
                  by_cases hjl : j < QQ.1.length
                  · obtain ⟨z, hz, hz2, hzm, hzd⟩ := drop_get hjl
                    have hzs := t2 z hzm
                    have wj : IntKind.i64.wrap ((j : Int) + 1) = ((j + 1 : Nat) : Int) := wrapS hjl (by simp [maxLen]; omega)
                    simp [hn, h6, h10, h12, h13, h14, h15, encPosts, encPost, encInts, iV, iD, bV, hlt, hx, hkl, ha, hjl, hz, guardVal]
                    refine awp_drawn wide0 mixed [27] [] (by kernel_rfl) ?_
                    by_cases cb : bb = 1
                    · simp [hn, h6, h10, h12, h13, h14, h15, encPosts, encPost, encInts, iV, iD, bV, hlt, hx, hkl, ha, hjl, hz, guardVal, cb]
                      exact ⟨_, by omega, j + 1, rfl, hjl, wj⟩
                    · by_cases cd : z.doc = x.doc
                      · simp [hn, h6, h10, h12, h13, h14, h15, encPosts, encPost, encInts, iV, iD, bV, hlt, hx, hkl, ha, hjl, hz, guardVal, cb, cd]
                        refine vcall_of [.l .d, .l .d] (v12 z.places a (by simp [maxLen]; omega)) rfl cp12 (by simp [encInts, iD] <;> rfl) (by simp <;> rfl) (by simp [hn]) ?_
                        by_cases cm : a ∈ z.places
                        · simp [hn, h6, h10, h12, h13, h14, h15, encPosts, encPost, encInts, iV, iD, bV, hlt, hx, hkl, ha, hjl, hz, guardVal, cb, cd, cm, bindRes]
                          exact ⟨_, by omega, j + 1, rfl, hjl, wj⟩
                        · simp [hn, h6, h10, h12, h13, h14, h15, encPosts, encPost, encInts, iV, iD, bV, hlt, hx, hkl, ha, hjl, hz, guardVal, cb, cd, cm, bindRes]
                          refine ⟨_, by omega, j + 1, rfl, hjl, wj, 0, by simp, .inr ?_⟩
                          rcases hbb with hbb | hbb
                          · exact absurd hbb cb
                          · rw [hzd] at hbb
                            rcases List.mem_cons.1 hbb with rfl | hbb
                            · exact absurd hya cm
                            · exact hbb
                      · simp [hn, h6, h10, h12, h13, h14, h15, encPosts, encPost, encInts, iV, iD, bV, hlt, hx, hkl, ha, hjl, hz, guardVal, cb, cd]
                        refine ⟨_, by omega, j + 1, rfl, hjl, wj, 0, by simp, .inr ?_⟩
                        rcases hbb with hbb | hbb
                        · exact absurd hbb cb
                        · rw [hzd] at hbb
                          rcases List.mem_cons.1 hbb with rfl | hbb
                          · exact absurd hyd cd
                          · exact hbb
                  · have cb : bb = 1 := by
                      rcases hbb with hbb | hbb
                      · exact hbb
                      · rw [List.drop_eq_nil_of_le (by omega)] at hbb; cases hbb
                    simp [hn, h6, h10, h12, h13, h14, h15, encPosts, encPost, encInts, iV, iD, bV, hlt, hx, hkl, ha, hjl, guardVal, cb]
                    exact ⟨_, by omega, k + 1, rfl, hkl, wk⟩
              · simp [hn, h6, h10, h12, h13, encPosts, encPost, encInts, iV, iD, hlt, hx, hkl]
                exact ⟨_, by omega, i + 1, rfl, hlt, wi⟩
          · simp [hn, h6, h10, h12, encPosts, iV, iD, hlt, Post, finish]
      · have hx : PP.1 = [] ∨ ls = [] := hfail (by
          by_cases h : PP.2 = 0
          · exact .inr fun h' => cc ⟨h, h'⟩
          · exact .inl h)
        rcases hx with hx | hx <;> rcases cP with cP | cP <;> rcases cQ with cQ | cQ <;> by_cases hpe : PP.1 = []
        all_goals first
          | (exfalso; omega)
          | contradiction
          | simp [Try.ntmps4, bindRes, iD, cP, cQ, guardVal, encPosts, encLists, hx, hpe, Post, finish]
    · simp [Try.ntmps4, bindRes, iD, cO, guardVal]
      refine vcall_of [.l .d] hv8 rfl cp8 (by simp [encLists, mset_other] <;> rfl) (by simp <;> rfl) (by simp [Try.ntmps4]) ?_
      by_cases cc : PP.2 = 0 ∧ QQ.2 = 0
      · obtain ⟨cP, cQ⟩ := cc
        have hlg := hlong cP cQ
        simp [Try.ntmps4, bindRes, iD, cP, cQ, guardVal, encPosts]
        refine awp_loop (fun m st => ∃ i : Nat, m = PP.1.length - i ∧ i ≤ PP.1.length ∧ st.n = 118 ∧ st.slot 6 = .l (.d (encPosts PP.1)) ∧ st.slot 10 = .l (.d (encPosts QQ.1)) ∧ st.slot 12 = iV i) _ ⟨0, rfl, ?_⟩ ?_
        · simp [encPosts, iV]
        · rintro m st ⟨i, rfl, hi, hn, h6, h10, h12⟩
          refine awp_of wide0 _ _ _ ?_
          by_cases hlt : i < PP.1.length
          · obtain ⟨x, hx, hx2, hxm, hxd⟩ := drop_get hlt
            have hxs := s2 x hxm
            have wi : IntKind.i64.wrap ((i : Int) + 1) = ((i + 1 : Nat) : Int) := wrapS hlt (by simp [maxLen]; omega)
            simp [hn, h6, h10, h12, encPosts, encPost, iV, iD, hlt, hx]
            refine awp_loop (fun m st => ∃ k : Nat, m = x.places.length - k ∧ k ≤ x.places.length ∧ st.n = 118 ∧ st.slot 6 = .l (.d (encPosts PP.1)) ∧ st.slot 10 = .l (.d (encPosts QQ.1)) ∧ st.slot 12 = iV i ∧ st.slot 13 = iV k) _ ⟨0, rfl, ?_⟩ ?_
            · simp [hn, h6, h10, h12, encPosts, iV]
            · clear hn h6 h10 h12 st
              rintro m st ⟨k, rfl, hk, hn, h6, h10, h12, h13⟩
              refine awp_of wide0 _ _ _ ?_
              by_cases hkl : k < x.places.length
              · obtain ⟨a, ha, ha2, ham, had⟩ := drop_get hkl
                have wk : IntKind.i64.wrap ((k : Int) + 1) = ((k + 1 : Nat) : Int) := wrapS hkl (by simp [maxLen]; omega)
                obtain ⟨y, hym, hyd, hya⟩ := hlg x hxm a ham
                simp [hn, h6, h10, h12, h13, encPosts, encPost, encInts, iV, iD, hlt, hx, hkl, ha]
                refine awp_loop (fun m st => ∃ j : Nat, m = QQ.1.length - j ∧ j ≤ QQ.1.length ∧ st.n = 118 ∧ st.slot 6 = .l (.d (encPosts PP.1)) ∧ st.slot 10 = .l (.d (encPosts QQ.1)) ∧ st.slot 12 = iV i ∧ st.slot 13 = iV k ∧ st.slot 15 = iV j ∧
                  ∃ bb : Nat, st.slot 14 = bV (decide (bb = 1)) ∧ (bb = 1 ∨ y ∈ QQ.1.drop j)) _ ⟨0, rfl, ?_⟩ ?_
                · refine ⟨Nat.zero_le _, by simp [hn], by simp [h6, encPosts], by simp [h10, encPosts], by simp [h12, iV], by simp [h13, iV], by simp [iV], 0, by simp [bV], .inr (by simpa using hym)⟩
                · clear hn h6 h10 h12 h13 st
                  rintro m st ⟨j, rfl, hj, hn, h6, h10, h12, h13, h15, bb, h14, hbb⟩
                  refine awp_of wide0 _ _ _ ?_
                  by_cases hjl : j < QQ.1.length
                  · obtain ⟨z, hz, hz2, hzm, hzd⟩ := drop_get hjl
                    have hzs := t2 z hzm
                    have wj : IntKind.i64.wrap ((j : Int) + 1) = ((j + 1 : Nat) : Int) := wrapS hjl (by simp [maxLen]; omega)
                    simp [hn, h6, h10, h12, h13, h14, h15, encPosts, encPost, encInts, iV, iD, bV, hlt, hx, hkl, ha, hjl, hz, guardVal]
                    refine awp_drawn wide0 mixed [27] [] (by kernel_rfl) ?_
                    by_cases cb : bb = 1
                    · simp [hn, h6, h10, h12, h13, h14, h15, encPosts, encPost, encInts, iV, iD, bV, hlt, hx, hkl, ha, hjl, hz, guardVal, cb]
                      exact ⟨_, by omega, j + 1, rfl, hjl, wj⟩
                    · by_cases cd : z.doc = x.doc
                      · simp [hn, h6, h10, h12, h13, h14, h15, encPosts, encPost, encInts, iV, iD, bV, hlt, hx, hkl, ha, hjl, hz, guardVal, cb, cd]
                        refine vcall_of [.l .d, .l .d] (v12 z.places a (by simp [maxLen]; omega)) rfl cp12 (by simp [encInts, iD] <;> rfl) (by simp <;> rfl) (by simp [hn]) ?_
                        by_cases cm : a ∈ z.places
                        · simp [hn, h6, h10, h12, h13, h14, h15, encPosts, encPost, encInts, iV, iD, bV, hlt, hx, hkl, ha, hjl, hz, guardVal, cb, cd, cm, bindRes]
                          exact ⟨_, by omega, j + 1, rfl, hjl, wj⟩
                        · simp [hn, h6, h10, h12, h13, h14, h15, encPosts, encPost, encInts, iV, iD, bV, hlt, hx, hkl, ha, hjl, hz, guardVal, cb, cd, cm, bindRes]
                          refine ⟨_, by omega, j + 1, rfl, hjl, wj, 0, by simp, .inr ?_⟩
                          rcases hbb with hbb | hbb
                          · exact absurd hbb cb
                          · rw [hzd] at hbb
                            rcases List.mem_cons.1 hbb with rfl | hbb
                            · exact absurd hya cm
                            · exact hbb
                      · simp [hn, h6, h10, h12, h13, h14, h15, encPosts, encPost, encInts, iV, iD, bV, hlt, hx, hkl, ha, hjl, hz, guardVal, cb, cd]
                        refine ⟨_, by omega, j + 1, rfl, hjl, wj, 0, by simp, .inr ?_⟩
                        rcases hbb with hbb | hbb
                        · exact absurd hbb cb
                        · rw [hzd] at hbb
                          rcases List.mem_cons.1 hbb with rfl | hbb
                          · exact absurd hyd cd
                          · exact hbb
                  · have cb : bb = 1 := by
                      rcases hbb with hbb | hbb
                      · exact hbb
                      · rw [List.drop_eq_nil_of_le (by omega)] at hbb; cases hbb
                    simp [hn, h6, h10, h12, h13, h14, h15, encPosts, encPost, encInts, iV, iD, bV, hlt, hx, hkl, ha, hjl, guardVal, cb]
                    exact ⟨_, by omega, k + 1, rfl, hkl, wk⟩
              · simp [hn, h6, h10, h12, h13, encPosts, encPost, encInts, iV, iD, hlt, hx, hkl]
                exact ⟨_, by omega, i + 1, rfl, hlt, wi⟩
          · simp [hn, h6, h10, h12, encPosts, iV, iD, hlt, Post, finish]
      · have hx : PP.1 = [] ∨ ls = [] := hfail (by
          by_cases h : PP.2 = 0
          · exact .inr fun h' => cc ⟨h, h'⟩
          · exact .inl h)
        rcases hx with hx | hx <;> rcases cP with cP | cP <;> rcases cQ with cQ | cQ <;> by_cases hpe : PP.1 = []
        all_goals first
          | (exfalso; omega)
          | contradiction
          | simp [Try.ntmps4, bindRes, iD, cP, cQ, guardVal, encPosts, encLists, hx, hpe, Post, finish]
end Go.Proofs.Ytfnplmglpbihhaa.Vm
