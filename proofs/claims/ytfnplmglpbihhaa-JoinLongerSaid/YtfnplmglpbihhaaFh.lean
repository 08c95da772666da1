/- Posts behind which another list's stand. -/
import Derived.Test.YtfnplmglpbihhaaFd
import Derived.Test.YtfnplmglpbihhaaFe
namespace Go.Proofs.Ytfnplmglpbihhaa.Vm
open Go Go.RowKit
set_option maxRecDepth 10000
set_option linter.unusedSimpArgs false

def keepAt (by_ : Nat) (q : Pst) (l : List Int) : List Int := l.filter fun a => decide (a + by_ ∈ q.places)

def behindGo (by_ : Nat) (other : List Pst) : List Pst → List Pst
  | [] => []
  | p :: l => match other.dropWhile (fun q => decide (q.doc < p.doc)) with
    | [] => []
    | q :: r => if p.doc < q.doc then behindGo by_ (q :: r) l else
      (if keepAt by_ q p.places = [] then [] else [⟨p.doc, keepAt by_ q p.places⟩]) ++ behindGo by_ (q :: r) l

/-- A slice of one's own that is being appended to: slot, place, element's type, its cells. -/
def Acc (st : St) (t id e z : Nat) (xss : List (List D)) : Prop := (st.slot t = .l .nil ∧ xss = []) ∨ ∃ n, st.slot t = .l (.own [id] n) ∧ st.mem [id] = (n, .row e z xss)

theorem acc_put {st : St} {t t' id e z : Nat} {xss : List (List D)} {v : PV} (h : t ≠ t') : Acc (st.put (some t') v) t id e z xss = Acc st t id e z xss := by
  simp [Acc, h]

def Fine (l : List Pst) : Prop := l.length ≤ 1000000 ∧ ∀ p ∈ l, p.places.length ≤ 1000000 ∧ p.places.Pairwise (· < ·) ∧ ∀ a ∈ p.places, 0 ≤ a ∧ a ≤ 2147483647

theorem v19 (l other0 : List Pst) (by_ : Nat) (hb : by_ ≤ 1000000) (hl : Fine l) (ho0 : Fine other0) :
    VFun Try.prog 19 [.l (.d (encPosts l)), .l (.d (encPosts other0)), .l (.d (iD by_))] [.l (.d (encPosts (behindGo by_ other0 l)))] [] := by
  refine vfun_of (rslots := [6]) (rmds := [.l .d]) (cmds := []) Try.func19 rfl rfl (by simp [Try.ntmps19]) (awp_of wide0 _ _ _ ?_)
  simp [Try.ntmps19, encPosts]
  refine awp_loop (fun m st => ∃ (i : Nat) (other out : List Pst), m = l.length - i ∧ i ≤ l.length ∧ st.n = 81 ∧ st.slot 15 = .l (.d (encPosts l)) ∧ st.slot 16 = iV l.length ∧ st.slot 17 = iV i ∧ st.slot 1 = .l (.d (encPosts other)) ∧ st.slot 2 = iV by_ ∧
    Acc st 7 78 35 2 (out.map encPost) ∧ (∀ q ∈ other, q ∈ other0) ∧ behindGo by_ other0 l = out ++ behindGo by_ other (l.drop i) ∧ out.length ≤ i) _ ⟨0, other0, [], rfl, ?_⟩ ?_
  · simp [encPosts, iV, iD, Acc]
  · rintro m st ⟨i, other, out, rfl, hi, hn, h15, h16, h17, h1, h2, hA, hsub, hr, hol⟩
    refine awp_of wide0 _ _ _ ?_
    have hlt1 := hl.1
    by_cases hlt : i < l.length
    · obtain ⟨p, hg, hg2, hmem, hd⟩ := drop_get hlt
      have hp := hl.2 p hmem
      simp [hn, h15, h16, h17, h1, h2, encPosts, encPost, iV, iD, hlt, hg, effNew, effStore, overlay]
      refine awp_loop (fun m st => ∃ (o1 : List Pst) (k : Nat), m = o1.length ∧ st.n = 81 ∧ st.slot 15 = .l (.d (encPosts l)) ∧ st.slot 16 = iV l.length ∧ st.slot 17 = iV i ∧ st.slot 1 = .l (.d (encPosts o1)) ∧ st.slot 2 = iV by_ ∧
        st.slot 9 = .l (.ptr [9] k 0) ∧ st.mem [9] = (k, .cell [.d (iD p.doc), .d (encInts p.places)]) ∧ Acc st 7 78 35 2 (out.map encPost) ∧ (∀ q ∈ o1, q ∈ other0) ∧
        other.dropWhile (fun q => decide (q.doc < p.doc)) = o1.dropWhile (fun q => decide (q.doc < p.doc))) other.length ⟨other, (st.mem [9]).1 + 1, rfl, ?_⟩ ?_
      · refine ⟨by simp [hn], by simp [h15, encPosts], by simp [h16, iV], by simp [h17, iV], by simp [h1, encPosts], by simp [h2, iV], by simp, by simp [iD], ?_, hsub, rfl⟩
        rcases hA with ⟨q1, q2⟩ | ⟨n, q1, q2⟩
        · exact .inl ⟨by simp [q1], q2⟩
        · exact .inr ⟨n, by simp [q1], by simp [mset_other, q2]⟩
      · clear hn h15 h16 h17 h1 h2 hA st
        rintro m st ⟨o1, k, rfl, hn, h15, h16, h17, h1, h2, h9, hm9, hA, hsub1, hdw⟩
        refine awp_of wide0 _ _ _ ?_
        cases o1 with
        | nil =>
          simp [hn, h15, h16, h17, h1, h2, h9, encPosts, guardVal]
          refine awp_drawn wide0 mixed [] [[9]] (by kernel_rfl) ?_
          simp [hn, h15, h16, h17, h1, h2, h9, encPosts, guardVal]
          have hfin : behindGo by_ other0 l = out := by rw [hr, hd]; simp [behindGo, hdw]
          rw [hfin]
          rcases hA with ⟨q1, q2⟩ | ⟨n, q1, q2⟩
          · have : out = [] := by simpa using q2
            simp [hn, q1, Post, finish, this, encPosts]
          · simp [hn, q1, q2, Post, finish, encPosts]
        | cons q o1 =>
          have hq := ho0.2 q (hsub1 q (by simp))
          simp [hn, h15, h16, h17, h1, h2, h9, encPosts, guardVal]
          refine awp_drawn wide0 mixed [] [[9]] (by kernel_rfl) ?_
          by_cases c : q.doc < p.doc
          · simp [hn, h15, h16, h17, h1, h2, h9, hm9, encPosts, encPost, encInts, iD, iV, guardVal, show (0 : Int) < (o1.length : Int) + 1 by omega, c, effSlice, show (1 : Int) ≤ (o1.length : Int) + 1 by omega]
            refine ⟨o1.length, by omega, o1, rfl, by rw [List.take_of_length_le (by simp)], ?_, fun q h => hsub1 q (by simp [h]), by rw [hdw]; simp [c]⟩
            simpa [acc_put] using hA
          · have hdw' : other.dropWhile (fun q => decide (q.doc < p.doc)) = q :: o1 := by rw [hdw]; simp [c]
            rcases lge p.doc q.doc with ⟨d1, d2⟩ | ⟨d1, d2⟩
            · simp [hn, h15, h16, h17, h1, h2, h9, hm9, encPosts, encPost, encInts, iD, iV, guardVal, show (0 : Int) < (o1.length : Int) + 1 by omega, c]
              refine awp_drawn wide0 mixed [] [[9]] (by kernel_rfl) ?_
              simp [hn, h15, h16, h17, h1, h2, h9, hm9, encPosts, encPost, encInts, iD, iV, guardVal, show (0 : Int) < (o1.length : Int) + 1 by omega, c, d1, d2]
              refine ⟨_, by omega, i + 1, rfl, hlt, wrapS hlt (by simp [maxLen]; omega), q :: o1, by rfl, out, ?_, hsub1, ?_, by omega⟩
              · simpa [acc_put] using hA
              · rw [hr, hd]; simp [behindGo, hdw', d1]
            · simp [hn, h15, h16, h17, h1, h2, h9, hm9, encPosts, encPost, encInts, iD, iV, guardVal, show (0 : Int) < (o1.length : Int) + 1 by omega, c]
              refine awp_drawn wide0 mixed [] [[9]] (by kernel_rfl) ?_
              simp [hn, h15, h16, h17, h1, h2, h9, hm9, encPosts, encPost, encInts, iD, iV, guardVal, show (0 : Int) < (o1.length : Int) + 1 by omega, c, d1, d2]
              refine awp_loop (fun m st => ∃ (j : Nat), m = p.places.length - j ∧ j ≤ p.places.length ∧ st.n = 81 ∧ st.slot 15 = .l (.d (encPosts l)) ∧ st.slot 16 = iV l.length ∧ st.slot 17 = iV i ∧ st.slot 1 = .l (.d (encPosts (q :: o1))) ∧ st.slot 2 = iV by_ ∧
                st.slot 9 = .l (.ptr [9] k 0) ∧ st.mem [9] = (k, .cell [.d (iD p.doc), .d (encInts p.places)]) ∧ Acc st 7 78 35 2 (out.map encPost) ∧ st.slot 46 = .l (.d (encInts p.places)) ∧ st.slot 47 = iV p.places.length ∧ st.slot 48 = iV j ∧
                Acc st 10 67 3 1 ((keepAt by_ q (p.places.take j)).map fun n => [iD n])) _ ⟨0, rfl, ?_⟩ ?_
              · simp [hn, h15, h16, h17, h1, h2, h9, hm9, encPosts, encPost, encInts, iD, iV, acc_put, hA]
                simp [Acc, keepAt]
              · clear hn h15 h16 h17 h1 h2 h9 hm9 hA st
                rintro m st ⟨j, rfl, hj, hn, h15, h16, h17, h1, h2, h9, hm9, hA, h46, h47, h48, hB⟩
                refine awp_of wide0 _ _ _ ?_
                by_cases hjl : j < p.places.length
                · obtain ⟨y, hy, hy2, hym, hyd⟩ := drop_get hjl
                  have hyb := hp.2.2 y hym
                  have w1 : IntKind.i64.wrap (y + by_) = y + by_ := wrap64 (by omega) (by omega)
                  simp [hn, h15, h16, h17, h1, h2, h9, hm9, h46, h47, h48, encPosts, encPost, encInts, iD, iV, hjl, hy, w1]
                  refine vcall_of [.l .d, .l .d] (v26 q.places (y + by_) hq.1 hq.2.1) rfl cp26 (by simp [iD, encInts] <;> rfl) (by simp <;> rfl) (by simp [hn]) ?_
                  have hkl : (keepAt by_ q (p.places.take j)).length ≤ 1000000 := by
                    have := List.length_filter_le (fun a => decide (a + (by_ : Int) ∈ q.places)) (p.places.take j)
                    have := List.length_take_le j p.places
                    unfold keepAt; omega
                  have hks : keepAt by_ q (p.places.take (j + 1)) = keepAt by_ q (p.places.take j) ++ if y + by_ ∈ q.places then [y] else [] := by
                    unfold keepAt
                    rw [List.take_add_one, hy2, List.filter_append]
                    congr 1
                    by_cases h : y + (by_ : Int) ∈ q.places <;> simp [h]
                  have w2 : IntKind.i64.wrap ((j : Int) + 1) = ((j + 1 : Nat) : Int) := wrapS hjl (by simp [maxLen]; omega)
                  by_cases cf : y + (by_ : Int) ∈ q.places
                  · rw [if_pos cf] at hks
                    have e1 : ((keepAt by_ q (p.places.take j)).length + 1) * 8 ≤ 140737488355328 := by omega
                    have e2 : (keepAt by_ q (p.places.take j)).length + 1 ≤ maxLen := by simp [maxLen]; omega
                    rcases hB with ⟨q1, q2⟩ | ⟨n, q1, q2⟩
                    · have q3 : keepAt by_ q (p.places.take j) = [] := by simpa using q2
                      simp [hn, h15, h16, h17, h1, h2, h9, hm9, h46, h47, h48, bindRes, cf, q1, effBuildSlice, effAppend, fillL, overlay, chunks, mset_other, max1, encPosts, encPost, encInts, iD, iV]
                      refine ⟨_, by omega, j + 1, rfl, hjl, ?_, w2, ?_⟩
                      · rcases hA with ⟨r1, r2⟩ | ⟨n, r1, r2⟩
                        · exact .inl ⟨by simp [r1], r2⟩
                        · exact .inr ⟨n, by simp [r1], by simp [mset_other, r2]⟩
                      · exact .inr ⟨_, by simp <;> rfl, by simp [hks, q3]⟩
                    · simp [hn, h15, h16, h17, h1, h2, h9, hm9, h46, h47, h48, bindRes, cf, q1, q2, effBuildSlice, effAppend, fillL, overlay, chunks, mset_other, e1, e2, encPosts, encPost, encInts, iD, iV]
                      refine ⟨_, by omega, j + 1, rfl, hjl, ?_, w2, ?_⟩
                      · rcases hA with ⟨r1, r2⟩ | ⟨n, r1, r2⟩
                        · exact .inl ⟨by simp [r1], r2⟩
                        · exact .inr ⟨n, by simp [r1], by simp [mset_other, r2]⟩
                      · exact .inr ⟨_, by simp <;> rfl, by simp [hks, iD]⟩
                  · rw [if_neg cf, List.append_nil] at hks
                    simp [hn, h15, h16, h17, h1, h2, h9, hm9, h46, h47, h48, bindRes, cf, encPosts, encPost, encInts, iD, iV]
                    refine ⟨_, by omega, j + 1, rfl, hjl, ?_, w2, ?_⟩
                    · rcases hA with ⟨r1, r2⟩ | ⟨n, r1, r2⟩
                      · exact .inl ⟨by simp [r1], r2⟩
                      · exact .inr ⟨n, by simp [r1], by simp [r2]⟩
                    · rw [hks]
                      rcases hB with ⟨q1, q2⟩ | ⟨n, q1, q2⟩
                      · exact .inl ⟨by simp [q1], q2⟩
                      · exact .inr ⟨n, by simp [q1], by simp [q2, iD]⟩
                · have hjn : j = p.places.length := by omega
                  subst hjn
                  rw [List.take_length] at hB
                  have hkl : (keepAt by_ q p.places).length ≤ 1000000 := by
                    have := List.length_filter_le (fun a => decide (a + (by_ : Int) ∈ q.places)) p.places
                    unfold keepAt; omega
                  have wi : IntKind.i64.wrap ((i : Int) + 1) = ((i + 1 : Nat) : Int) := wrapS hlt (by simp [maxLen]; omega)
                  by_cases ck : keepAt by_ q p.places = []
                  · have hrr : behindGo by_ other0 l = out ++ behindGo by_ (q :: o1) (l.drop (i + 1)) := by rw [hr, hd]; simp [behindGo, hdw', d2, ck]
                    have h10 : st.slot 10 = .l .nil ∨ ∃ n, st.slot 10 = .l (.own [67] n) ∧ st.mem [67] = (n, .row 3 1 []) := by
                      rcases hB with ⟨q1, q2⟩ | ⟨n, q1, q2⟩
                      · exact .inl q1
                      · exact .inr ⟨n, q1, by simpa [ck] using q2⟩
                    rcases h10 with q1 | ⟨n, q1, q2⟩
                    · simp [hn, h15, h16, h17, h1, h2, h9, hm9, h46, h47, h48, q1, encPosts, encPost, encInts, iD, iV]
                      exact ⟨_, by omega, i + 1, rfl, hlt, wi, q :: o1, by rfl, out, by simpa [acc_put] using hA, hsub1, hrr, by omega⟩
                    · simp [hn, h15, h16, h17, h1, h2, h9, hm9, h46, h47, h48, q1, q2, encPosts, encPost, encInts, iD, iV]
                      exact ⟨_, by omega, i + 1, rfl, hlt, wi, q :: o1, by rfl, out, by simpa [acc_put] using hA, hsub1, hrr, by omega⟩
                  · have hrr : behindGo by_ other0 l = out ++ [⟨p.doc, keepAt by_ q p.places⟩] ++ behindGo by_ (q :: o1) (l.drop (i + 1)) := by rw [hr, hd]; simp [behindGo, hdw', d2, ck]
                    have hpos : 0 < (keepAt by_ q p.places).length := List.length_pos_iff.2 ck
                    have e1 : (out.length + 1) * 32 ≤ 140737488355328 := by omega
                    have e2 : out.length + 1 ≤ maxLen := by simp [maxLen]; omega
                    rcases hB with ⟨q1, q2⟩ | ⟨n, q1, q2⟩
                    · exact absurd (by simpa using q2) ck
                    · rcases hA with ⟨r1, r2⟩ | ⟨n', r1, r2⟩
                      · have ro : out = [] := by simpa using r2
                        simp [hn, h15, h16, h17, h1, h2, h9, hm9, h46, h47, h48, q1, q2, hpos, r1, effBuild, effBuildSlice, effAppend, fillL, overlay, chunks, mset_other, max1, encPosts, encPost, encInts, iD, iV]
                        exact ⟨_, by omega, i + 1, rfl, hlt, wi, q :: o1, by rfl, out ++ [⟨p.doc, keepAt by_ q p.places⟩], .inr ⟨_, by simp <;> rfl, by simp [ro, encPost, encInts, iD]⟩, hsub1, hrr, by simp; omega⟩
                      · simp [hn, h15, h16, h17, h1, h2, h9, hm9, h46, h47, h48, q1, q2, hpos, r1, r2, effBuild, effBuildSlice, effAppend, fillL, overlay, chunks, mset_other, e1, e2, encPosts, encPost, encInts, iD, iV]
                        exact ⟨_, by omega, i + 1, rfl, hlt, wi, q :: o1, by rfl, out ++ [⟨p.doc, keepAt by_ q p.places⟩], .inr ⟨_, by simp <;> rfl, by simp [encPost, encInts, iD]⟩, hsub1, hrr, by simp; omega⟩
    · have hil : i = l.length := by omega
      have hfin : behindGo by_ other0 l = out := by rw [hr, List.drop_eq_nil_of_le (by omega)]; simp [behindGo]
      rw [hfin]
      rcases hA with ⟨q1, q2⟩ | ⟨n, q1, q2⟩
      · have : out = [] := by simpa using q2
        simp [hn, h15, h16, h17, iV, hlt, q1, Post, finish, this, encPosts]
      · simp [hn, h15, h16, h17, iV, hlt, q1, q2, Post, finish, encPosts]
end Go.Proofs.Ytfnplmglpbihhaa.Vm
