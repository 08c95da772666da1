/- A phrase, as the document finds it. -/
import Derived.Test.YtfnplmglpbihhaaFi
namespace Go.Proofs.Ytfnplmglpbihhaa.Vm
open Go Go.RowKit
set_option maxRecDepth 10000
set_option linter.unusedSimpArgs false

def allBehind (doc a : Int) (k : Nat) : List (List Pst) → Bool
  | [] => true
  | l :: ls => decide (a + k ∈ atGo doc l) && allBehind doc a (k + 1) ls

def refKeep (ls : List (List Pst)) (doc : Int) (l : List Int) : List Int := l.filter fun a => allBehind doc a 1 ls

def refGo (ls : List (List Pst)) : List Pst → List Pst
  | [] => []
  | p :: l => (if refKeep ls p.doc p.places = [] then [] else [⟨p.doc, refKeep ls p.doc p.places⟩]) ++ refGo ls l

def refPhrase : List (List Pst) → List Pst × Int
  | [] => ([], 1)
  | l :: ls => if (l :: ls).all formed then (refGo ls l, 0) else ([], 1)

def CellP (st : St) (kk : Nat) (doc : Int) (pl : List Int) : Prop := st.slot 7 = .l (.ptr [7] kk 0) ∧ ∃ leaf, st.mem [7] = (kk, .cell [.d (iD doc), leaf]) ∧
  ((leaf = .nil ∧ pl = []) ∨ ∃ n, leaf = .own [90] n ∧ st.mem [90] = (n, .row 3 1 (pl.map fun n => [iD n])))

theorem cellP_put {st : St} {t : Nat} {kk : Nat} {doc : Int} {pl : List Int} {v : PV} (h : 7 ≠ t) : CellP (st.put (some t) v) kk doc pl = CellP st kk doc pl := by
  simp [CellP, h]

theorem at_places (doc : Int) : ∀ (l : List Pst) (n : Nat), (∀ p ∈ l, p.places.length ≤ n) → (atGo doc l).length ≤ n
  | [], n, _ => by simp [atGo]
  | p :: l, n, h => by
    unfold atGo
    split
    · exact h p (by simp)
    · exact at_places doc l n fun q hq => h q (by simp [hq])

theorem v9 (ls0 : List (List Pst)) (hf : Fits ls0) : VFun Try.prog 9 [.l (.d (encLists ls0))] [.l (.d (encPosts (refPhrase ls0).1)), .l (.d (iD (refPhrase ls0).2))] [] := by
  refine vfun_of (rslots := [2, 3]) (rmds := [.l .d, .l .d]) (cmds := []) Try.func9 rfl rfl (by simp [Try.ntmps9]) (awp_of wide0 _ _ _ ?_)
  cases ls0 with
  | nil => simp [Try.ntmps9, encLists, guardVal, Post, finish, refPhrase, encPosts, iD]
  | cons l0 ls =>
    simp [Try.ntmps9, encLists, guardVal, show ¬ (ls.length : Int) + 1 = 0 by omega]
    have hlen := hf.1
    simp only [List.length_cons] at hlen
    refine awp_loop (fun m st => ∃ (i : Nat), m = (l0 :: ls).length - i ∧ i ≤ (l0 :: ls).length ∧ st.n = 101 ∧ st.slot 0 = .l (.d (encLists (l0 :: ls))) ∧ st.slot 4 = iV i ∧ (l0 :: ls).all formed = ((l0 :: ls).drop i).all formed) _ ⟨0, rfl, ?_⟩ ?_
    · simp [encLists, iV]
    · rintro m st ⟨i, rfl, hi, hn, h0, h4, hr⟩
      refine awp_of wide0 _ _ _ ?_
      by_cases hlt : i < (l0 :: ls).length
      · obtain ⟨x, hg, hg2, hmem, hd⟩ := drop_get hlt
        have hx := hf.2 x hmem
        have hlt' : i < ls.length + 1 := by simpa using hlt
        have hg' : (List.map (fun x => [encPosts x]) (l0 :: ls))[i]? = some [encPosts x] := by rw [List.getElem?_map, hg2]; rfl
        simp only [List.map_cons] at hg'
        have hc : (i : Int) < (ls.length : Int) + 1 := by omega
        simp [hn, h0, h4, encLists, iV, iD, hg', hc]
        refine vcall_of [.l .d] (v11 x (by have := hx.1; simp [maxLen]; omega) hx.1 (fun p hp => by have := hx.2 p hp; simp [maxLen]; omega)) rfl cp11 (by simp <;> rfl) (by simp <;> rfl) (by simp [hn]) ?_
        cases c : formed x with
        | true =>
          simp [hn, h0, h4, bindRes, encLists, iV, iD]
          exact ⟨_, by simp; omega, i + 1, rfl, by omega, wrapS hlt (by simp [maxLen]; omega), by simpa [c, hd] using hr⟩
        | false =>
          have hall : (l0 :: ls).all formed = false := by rw [hr, hd]; simp [c]
          have hph : refPhrase (l0 :: ls) = ([], 1) := by simp only [refPhrase, hall]; rfl
          rw [hph]
          simp [hn, h0, h4, bindRes, Post, finish, encPosts, iD]
      · have hall : (l0 :: ls).all formed = true := by rw [hr, List.drop_eq_nil_of_le (by omega)]; rfl
        have hph : refPhrase (l0 :: ls) = (refGo ls l0, 0) := by simp only [refPhrase, hall, if_true]
        have hfo : ∀ l ∈ l0 :: ls, formed l = true := fun l hl => List.all_eq_true.1 hall l hl
        rw [hph]
        have hl0 := hf.2 l0 (by simp)
        have hF0 := formed_fine (hfo l0 (by simp)) hl0.1 hl0.2
        have hc : ¬ (i : Int) < (ls.length : Int) + 1 := by simp at hlt; omega
        simp [hn, h0, h4, encLists, iV, iD, hc]
        refine awp_loop (fun m st => ∃ (i : Nat) (out : List Pst), m = l0.length - i ∧ i ≤ l0.length ∧ st.n = 101 ∧ st.slot 0 = .l (.d (encLists (l0 :: ls))) ∧ st.slot 6 = iV i ∧ Acc st 5 99 35 2 (out.map encPost) ∧ refGo ls l0 = out ++ refGo ls (l0.drop i) ∧ out.length ≤ i) _ ⟨0, [], rfl, ?_⟩ ?_
        · simp [hn, h0, encLists, iV, Acc]
        · clear hn h0 h4 hi hr hlt hc i st
          rintro m st ⟨i, out, rfl, hi, hn, h0, h6, hA, hr, hol⟩
          refine awp_of wide0 _ _ _ ?_
          by_cases hlt : i < l0.length
          · obtain ⟨p, hg, hg2, hmem, hd⟩ := drop_get hlt
            have hp := hF0.2 p hmem
            simp [hn, h0, h6, encLists, encPosts, encPost, iV, iD, hlt, hg, effBuild, fillL, effNew, effStore, overlay]
            refine awp_loop (fun m st => ∃ (j kk : Nat), m = p.places.length - j ∧ j ≤ p.places.length ∧ st.n = 101 ∧ st.slot 0 = .l (.d (encLists (l0 :: ls))) ∧ st.slot 6 = iV i ∧ st.slot 8 = iV j ∧ Acc st 5 99 35 2 (out.map encPost) ∧ CellP st kk p.doc (refKeep ls p.doc (p.places.take j))) _ ⟨0, (st.mem [7]).1 + 1, rfl, ?_⟩ ?_
            · refine ⟨Nat.zero_le _, by simp [hn], by simp [h0, encLists, encPosts], by simp [h6, iV], by simp [iV], ?_, by simp, _, by simp <;> rfl, .inl ⟨rfl, by simp [refKeep]⟩⟩
              rcases hA with ⟨q1, q2⟩ | ⟨n, q1, q2⟩
              · exact .inl ⟨by simp [q1], q2⟩
              · exact .inr ⟨n, by simp [q1], by simp [mset_other, q2]⟩
            · clear hn h0 h6 hA st
              rintro m st ⟨j, kk, rfl, hj, hn, h0, h6, h8, hA, hC⟩
              refine awp_of wide0 _ _ _ ?_
              by_cases hjl : j < p.places.length
              · obtain ⟨a, ha, ha2, ham, had⟩ := drop_get hjl
                have hab := hp.2.2 a ham
                simp [hn, h0, h6, h8, encLists, encPosts, encPost, encInts, iV, iD, hlt, hg, hjl, ha]
                refine awp_loop (fun m st => ∃ (k : Nat), m = (ls.length + 1) - k ∧ 1 ≤ k ∧ k ≤ ls.length + 1 ∧ st.n = 101 ∧ st.slot 0 = .l (.d (encLists (l0 :: ls))) ∧ st.slot 6 = iV i ∧ st.slot 8 = iV j ∧ st.slot 9 = iV a ∧ st.slot 11 = iV k ∧ Acc st 5 99 35 2 (out.map encPost) ∧ CellP st kk p.doc (refKeep ls p.doc (p.places.take j)) ∧
                  ∃ (bb : Nat), st.slot 10 = bV (decide (bb = 1)) ∧ allBehind p.doc a 1 ls = (decide (bb = 1) && allBehind p.doc a k (ls.drop (k - 1)))) _ ⟨1, rfl, ?_⟩ ?_
                · refine ⟨Nat.le_refl _, by omega, by simp [hn], by simp [h0, encLists, encPosts], by simp [h6, iV], by simp [h8, iV], by simp [iV], by simp [iV], by simpa [acc_put] using hA, by simpa [cellP_put] using hC, 1, by simp [bV], by simp⟩
                · clear hn h0 h6 h8 hA hC st
                  rintro m st ⟨k, rfl, hk1, hk, hn, h0, h6, h8, h9, h11, hA, hC, bb, h10, hr2⟩
                  refine awp_of wide0 _ _ _ ?_
                  generalize decide (bb = 1) = b at h10 hr2
                  obtain ⟨k', rfl⟩ : ∃ k', k = k' + 1 := ⟨k - 1, by omega⟩
                  simp only [Nat.add_sub_cancel] at hr2
                  by_cases hgo : k' < ls.length ∧ b = true
                  · obtain ⟨hkl, rfl⟩ := hgo
                    obtain ⟨x, hx, hx2, hxm, hxd⟩ := drop_get hkl
                    have hxb := hf.2 x (by simp [hxm])
                    have w1 : IntKind.i64.wrap (a + (k' + 1)) = a + (k' + 1) := wrap64 (by omega) (by omega)
                    have hkI : ((k' : Int) + 1) < (ls.length : Int) + 1 := by omega
                    have hget : (List.map (fun x => [encPosts x]) ls)[k']? = some [encPosts x] := by rw [List.getElem?_map, hx2]; rfl
                    have hge : (0 : Int) ≤ (k' : Int) + 1 := by omega
                    have htn : ((k' : Int) + 1).toNat = k' + 1 := by omega
                    obtain ⟨h7, leaf, hm7, hlf⟩ := hC
                    simp [hn, h0, h6, h8, h9, h10, h11, encLists, iV, iD, bV, guardVal, hkI]
                    refine awp_drawn wide0 mixed [6, 10] [[7]] (by kernel_rfl) ?_
                    simp [hn, h0, h6, h7, h8, h9, h10, h11, hm7, encLists, iV, iD, bV, guardVal, hkI, hge, htn, hget]
                    refine vcall_of [.l .d, .l .d] (v20 x p.doc (by have := hxb.1; simp [maxLen]; omega)) rfl cp20 (by simp [iD, h7, hm7] <;> rfl) (by simp <;> rfl) (by simp [hn]) ?_
                    simp [hn, h0, h6, h7, h8, h9, h10, h11, hm7, encLists, iV, iD, bV, guardVal, hkI, hge, htn, hget, bindRes, w1]
                    refine vcall_of [.l .d, .l .d] (v12 (atGo p.doc x) (a + (k' + 1)) (by have := at_places p.doc x 1000000 hxb.2; simp [maxLen]; omega)) rfl cp12 (by simp [iD] <;> rfl) (by simp <;> rfl) (by simp [hn]) ?_
                    have w2 : IntKind.i64.wrap ((k' : Int) + 1 + 1) = ((k' + 1 + 1 : Nat) : Int) := wrapS (i := k' + 1) (n := ls.length + 1) (by omega) (by simp [maxLen]; omega)
                    have hC' : CellP st kk p.doc (refKeep ls p.doc (p.places.take j)) := ⟨h7, leaf, hm7, hlf⟩
                    by_cases cm : a + ((k' : Int) + 1) ∈ atGo p.doc x
                    · simp [hn, h0, h6, h7, h8, h9, h10, h11, hm7, encLists, iV, iD, bV, guardVal, hkI, hge, htn, hget, bindRes, cm]
                      refine ⟨_, by omega, k' + 1 + 1, rfl, by omega, by omega, w2, by simpa [acc_put] using hA, by simpa [cellP_put] using hC', ?_⟩
                      rw [hr2, hxd]; simp [allBehind, cm]
                    · simp [hn, h0, h6, h7, h8, h9, h10, h11, hm7, encLists, iV, iD, bV, guardVal, hkI, hge, htn, hget, bindRes, cm]
                      refine ⟨_, by omega, k' + 1 + 1, rfl, by omega, by omega, w2, by simpa [acc_put] using hA, by simpa [cellP_put] using hC', 0, by simp, ?_⟩
                      rw [hr2, hxd]; simp [allBehind, cm]
                  · have hall2 : allBehind p.doc a 1 ls = b := by
                      rw [hr2]
                      by_cases hkl : k' < ls.length
                      · have : b = false := by cases b with
                          | false => rfl
                          | true => exact absurd ⟨hkl, rfl⟩ hgo
                        simp [this]
                      · rw [List.drop_eq_nil_of_le (by omega)]; simp [allBehind]
                    have hks : refKeep ls p.doc (p.places.take (j + 1)) = refKeep ls p.doc (p.places.take j) ++ if b then [a] else [] := by
                      unfold refKeep
                      rw [List.take_add_one, ha2, List.filter_append]
                      congr 1
                      cases b <;> simp [hall2]
                    have hkl : (refKeep ls p.doc (p.places.take j)).length ≤ 1000000 := by
                      have := List.length_filter_le (fun a => allBehind p.doc a 1 ls) (p.places.take j)
                      have := List.length_take_le j p.places
                      unfold refKeep; omega
                    have w3 : IntKind.i64.wrap ((j : Int) + 1) = ((j + 1 : Nat) : Int) := wrapS hjl (by simp [maxLen]; omega)
                    have e1 : ((refKeep ls p.doc (p.places.take j)).length + 1) * 8 ≤ 140737488355328 := by omega
                    have e2 : (refKeep ls p.doc (p.places.take j)).length + 1 ≤ maxLen := by simp [maxLen]; omega
                    cases b with
                    | false =>
                      simp only [Bool.false_eq_true, if_false, List.append_nil] at hks
                      by_cases hk2 : (k' : Int) + 1 < (ls.length : Int) + 1
                      all_goals
                        simp [hn, h0, h6, h8, h9, h10, h11, encLists, iV, iD, bV, guardVal, hk2]
                        exact ⟨_, by omega, j + 1, rfl, hjl, ⟨rfl, fun _ _ => rfl⟩, w3, by simpa [acc_put] using hA, kk, by rw [hks]; simpa [cellP_put] using hC⟩
                    | true =>
                      have hk2 : ¬ (k' : Int) + 1 < (ls.length : Int) + 1 := fun h => hgo ⟨by omega, rfl⟩
                      simp only [if_true] at hks
                      obtain ⟨h7, leaf, hm7, hlf⟩ := hC
                      rcases hlf with ⟨rfl, hkn⟩ | ⟨n, rfl, hm90⟩
                      · simp [hn, h0, h6, h7, h8, h9, h10, h11, hm7, encLists, iV, iD, bV, guardVal, hk2, effBuildSlice, effAppend, effStore, fillL, overlay, chunks, mset_other, max1]
                        refine ⟨_, by omega, j + 1, rfl, hjl, ⟨rfl, fun _ _ => rfl⟩, w3, ?_, kk, by simp [h7], _, by simp [iD] <;> rfl, .inr ⟨_, rfl, by simp [mset_other, hks, hkn, iD] <;> rfl⟩⟩
                        rcases hA with ⟨r1, r2⟩ | ⟨n, r1, r2⟩
                        · exact .inl ⟨by simp [r1], r2⟩
                        · exact .inr ⟨n, by simp [r1], by simp [mset_other, r2]⟩
                      · simp [hn, h0, h6, h7, h8, h9, h10, h11, hm7, hm90, encLists, iV, iD, bV, guardVal, hk2, effBuildSlice, effAppend, effStore, fillL, overlay, chunks, mset_other, e1, e2]
                        refine ⟨_, by omega, j + 1, rfl, hjl, ⟨rfl, fun _ _ => rfl⟩, w3, ?_, kk, by simp [h7], _, by simp [iD] <;> rfl, .inr ⟨_, rfl, by simp [mset_other, hks, iD] <;> rfl⟩⟩
                        rcases hA with ⟨r1, r2⟩ | ⟨n, r1, r2⟩
                        · exact .inl ⟨by simp [r1], r2⟩
                        · exact .inr ⟨n, by simp [r1], by simp [mset_other, r2]⟩
              · have hjn : j = p.places.length := by omega
                subst hjn
                rw [List.take_length] at hC
                obtain ⟨h7, leaf, hm7, hlf⟩ := hC
                have wi : IntKind.i64.wrap ((i : Int) + 1) = ((i + 1 : Nat) : Int) := wrapS hlt (by have := hF0.1; simp [maxLen]; omega)
                have hil := hF0.1
                have e1 : (out.length + 1) * 32 ≤ 140737488355328 := by omega
                have e2 : out.length + 1 ≤ maxLen := by simp [maxLen]; omega
                by_cases ck : refKeep ls p.doc p.places = []
                · have hrr : refGo ls l0 = out ++ refGo ls (l0.drop (i + 1)) := by rw [hr, hd]; simp [refGo, ck]
                  have hlf' : leaf = .nil ∨ ∃ n, leaf = .own [90] n ∧ st.mem [90] = (n, .row 3 1 []) := by
                    rcases hlf with ⟨q1, q2⟩ | ⟨n, q1, q2⟩
                    · exact .inl q1
                    · exact .inr ⟨n, q1, by simpa [ck] using q2⟩
                  rcases hlf' with rfl | ⟨n, rfl, q2⟩
                  · simp [hn, h0, h6, h7, h8, hm7, encLists, encPosts, encPost, encInts, iV, iD, hlt, hg]
                    exact ⟨_, by omega, i + 1, rfl, hlt, wi, out, by simpa [acc_put] using hA, hrr, by omega⟩
                  · simp [hn, h0, h6, h7, h8, hm7, q2, encLists, encPosts, encPost, encInts, iV, iD, hlt, hg]
                    exact ⟨_, by omega, i + 1, rfl, hlt, wi, out, by simpa [acc_put] using hA, hrr, by omega⟩
                · have hrr : refGo ls l0 = out ++ [⟨p.doc, refKeep ls p.doc p.places⟩] ++ refGo ls (l0.drop (i + 1)) := by rw [hr, hd]; simp [refGo, ck]
                  have hpos : 0 < (refKeep ls p.doc p.places).length := List.length_pos_iff.2 ck
                  rcases hlf with ⟨q1, q2⟩ | ⟨n, rfl, q2⟩
                  · exact absurd q2 ck
                  · rcases hA with ⟨r1, r2⟩ | ⟨n', r1, r2⟩
                    · have ro : out = [] := by simpa using r2
                      simp [hn, h0, h6, h7, h8, hm7, q2, hpos, r1, effBuildSlice, effAppend, fillL, overlay, chunks, mset_other, max1, encLists, encPosts, encPost, encInts, iV, iD, hlt, hg]
                      exact ⟨_, by omega, i + 1, rfl, hlt, wi, out ++ [⟨p.doc, refKeep ls p.doc p.places⟩], .inr ⟨_, by simp <;> rfl, by simp [ro, encPost, encInts, iD]⟩, hrr, by simp; omega⟩
                    · simp [hn, h0, h6, h7, h8, hm7, q2, hpos, r1, r2, effBuildSlice, effAppend, fillL, overlay, chunks, mset_other, e1, e2, encLists, encPosts, encPost, encInts, iV, iD, hlt, hg]
                      exact ⟨_, by omega, i + 1, rfl, hlt, wi, out ++ [⟨p.doc, refKeep ls p.doc p.places⟩], .inr ⟨_, by simp <;> rfl, by simp [encPost, encInts, iD]⟩, hrr, by simp; omega⟩
          · have hfin : refGo ls l0 = out := by rw [hr, List.drop_eq_nil_of_le (by omega)]; simp [refGo]
            rw [hfin]
            rcases hA with ⟨q1, q2⟩ | ⟨n, q1, q2⟩
            · have : out = [] := by simpa using q2
              simp [hn, h0, h6, encLists, encPosts, iV, iD, hlt, q1, Post, finish, this]
            · simp [hn, h0, h6, encLists, encPosts, iV, iD, hlt, q1, q2, Post, finish]
end Go.Proofs.Ytfnplmglpbihhaa.Vm
