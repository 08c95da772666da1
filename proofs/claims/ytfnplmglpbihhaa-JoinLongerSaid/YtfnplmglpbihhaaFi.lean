/- A phrase, as the program finds it. -/
import Derived.Test.YtfnplmglpbihhaaFh
namespace Go.Proofs.Ytfnplmglpbihhaa.Vm
open Go Go.RowKit
set_option maxRecDepth 10000
set_option linter.unusedSimpArgs false

theorem asD_d {m : Mem} {x : D} : asD m (.d x) = some (x, m) := rfl

theorem upTo_spec : ∀ (l : List Int) (last most : Int), upTo last most l = true → l.Pairwise (· < ·) ∧ ∀ a ∈ l, last < a ∧ a ≤ most
  | [], last, most, _ => ⟨.nil, fun a h => by cases h⟩
  | n :: l, last, most, h => by
    unfold upTo at h
    split at h
    · cases h
    · rename_i hc
      obtain ⟨h1, h2⟩ := upTo_spec l n most h
      refine ⟨List.pairwise_cons.2 ⟨fun a ha => (h2 a ha).1, h1⟩, fun a ha => ?_⟩
      rcases List.mem_cons.1 ha with rfl | ha
      · omega
      · have := h2 a ha; omega

theorem formed_fine {l : List Pst} (h : formed l = true) (h1 : l.length ≤ 1000000) (h2 : ∀ p ∈ l, p.places.length ≤ 1000000) : Fine l := by
  refine ⟨h1, fun p hp => ⟨h2 p hp, ?_⟩⟩
  simp only [formed, Bool.and_eq_true, List.all_eq_true] at h
  have := h.1 p hp
  simp only [okPlaces, Bool.and_eq_true] at this
  obtain ⟨q1, q2⟩ := upTo_spec _ _ _ this.2
  exact ⟨q1, fun a ha => by have := q2 a ha; omega⟩

theorem formed_places {l : List Pst} (h : formed l = true) {p : Pst} (hp : p ∈ l) : p.places ≠ [] := by
  simp only [formed, Bool.and_eq_true, List.all_eq_true] at h
  have := h.1 p hp
  simp only [okPlaces, Bool.and_eq_true, decide_eq_true_eq] at this
  exact this.1

theorem behindGo_len (by_ : Nat) : ∀ (l other : List Pst), (behindGo by_ other l).length ≤ l.length
  | [], other => by simp [behindGo]
  | p :: l, other => by
    unfold behindGo
    split
    · simp
    · split
      · have := behindGo_len by_ l; simp only [List.length_cons]; exact Nat.le_succ_of_le (this _)
      · rename_i q r _ _
        have := behindGo_len by_ l (q :: r)
        rw [List.length_append]
        split <;> simp <;> omega

theorem behindGo_mem (by_ : Nat) : ∀ (l other : List Pst) (x : Pst), x ∈ behindGo by_ other l → ∃ p ∈ l, x.doc = p.doc ∧ x.places.Sublist p.places ∧ x.places ≠ []
  | [], other, x, h => by simp [behindGo] at h
  | p :: l, other, x, h => by
    have next : ∀ o, x ∈ behindGo by_ o l → ∃ p' ∈ p :: l, x.doc = p'.doc ∧ x.places.Sublist p'.places ∧ x.places ≠ [] := fun o ho => by
      obtain ⟨p', h1, h2⟩ := behindGo_mem by_ l o x ho
      exact ⟨p', by simp [h1], h2⟩
    unfold behindGo at h
    split at h
    · cases h
    · split at h
      · exact next _ h
      · rename_i q r _ _
        rcases List.mem_append.1 h with h | h
        · split at h
          · cases h
          · rename_i hne
            simp only [List.mem_singleton] at h
            subst h
            exact ⟨p, by simp, rfl, List.filter_sublist, hne⟩
        · exact next _ h

theorem behind_fine {by_ : Nat} {other l : List Pst} (h : Fine l) : Fine (behindGo by_ other l) := by
  refine ⟨Nat.le_trans (behindGo_len by_ l other) h.1, fun x hx => ?_⟩
  obtain ⟨p, hp, _, hs, _⟩ := behindGo_mem by_ l other x hx
  obtain ⟨h1, h2, h3⟩ := h.2 p hp
  exact ⟨Nat.le_trans hs.length_le h1, h2.sublist hs, fun a ha => h3 a (hs.subset ha)⟩

def phr (by_ : Nat) (found : List Pst) : List (List Pst) → List Pst
  | [] => found
  | l :: ls => phr (by_ + 1) (behindGo (by_ + 1) l found) ls

def phrase : List (List Pst) → List Pst × Int
  | [] => ([], 1)
  | l :: ls => if (l :: ls).all formed then (phr 0 l ls, 0) else ([], 1)

def ReadsPosts (st : St) (t : Nat) (l : List Pst) : Prop := ∃ x m', st.slot t = .l x ∧ asD st.mem x = some (encPosts l, m')

theorem rp_put {st : St} {t t' : Nat} {l : List Pst} {v : PV} (h : t ≠ t') : ReadsPosts (st.put (some t') v) t l = ReadsPosts st t l := by
  simp [ReadsPosts, h]

theorem v8 (ls : List (List Pst)) (hf : Fits ls) : VFun Try.prog 8 [.l (.d (encLists ls))] [.l (.d (encPosts (phrase ls).1)), .l (.d (iD (phrase ls).2))] [] := by
  refine vfun_of (rslots := [2, 3]) (rmds := [.l .d, .l .d]) (cmds := []) Try.func8 rfl rfl (by simp [Try.ntmps8]) (awp_of wide0 _ _ _ ?_)
  cases ls with
  | nil => simp [Try.ntmps8, encLists, guardVal, Post, finish, phrase, encPosts, iD]
  | cons l0 ls =>
    simp [Try.ntmps8, encLists, guardVal, show ¬ (ls.length : Int) + 1 = 0 by omega]
    refine vcall_of [.l .d, .clo []] (v15 (l0 :: ls) hf) rfl cp15 (by simp [encLists, toPtrs] <;> rfl) (by simp <;> rfl) (by simp [Try.ntmps8]) ?_
    by_cases hall : (l0 :: ls).all formed = true
    · have hph : phrase (l0 :: ls) = (phr 0 l0 ls, 0) := by simp only [phrase, hall, if_true]
      have hfo : ∀ l ∈ l0 :: ls, formed l = true := fun l hl => List.all_eq_true.1 hall l hl
      rw [hph]
      simp only [hall]
      simp [Try.ntmps8, bindRes, guardVal, show ¬ (ls.length : Int) + 1 = 0 by omega, encPosts]
      have hl0 := hf.2 l0 (by simp)
      have hF0 := formed_fine (hfo l0 (by simp)) hl0.1 hl0.2
      refine awp_loop (fun m st => ∃ (i : Nat), m = l0.length - i ∧ i ≤ l0.length ∧ st.n = 49 ∧ st.slot 0 = .l (.d (encLists (l0 :: ls))) ∧ st.slot 18 = .l (.d (encPosts l0)) ∧ st.slot 19 = iV l0.length ∧ st.slot 20 = iV i ∧
        Acc st 4 32 35 2 ((l0.take i).map encPost)) _ ⟨0, rfl, ?_⟩ ?_
      · simp [encLists, encPosts, iV, Acc]
      · rintro m st ⟨i, rfl, hi, hn, h0, h18, h19, h20, hA⟩
        refine awp_of wide0 _ _ _ ?_
        by_cases hlt : i < l0.length
        · obtain ⟨p, hg, hg2, hmem, hd⟩ := drop_get hlt
          simp [hn, h0, h18, h19, h20, encPosts, encPost, iV, iD, hlt, hg, effNew, effStore, overlay]
          refine awp_drawn wide0 mixed [5, 7, 8] [[6]] (by kernel_rfl) ?_
          rcases hA with ⟨q1, q2⟩ | ⟨n, q1, q2⟩
          · simp [hn, h0, h18, h19, h20, q1, encPosts, encPost, iV, iD]
            refine vcall_of [.l .d] (v18 p.places (hl0.2 p hmem) (formed_places (hfo l0 (by simp)) hmem)) rfl cp18 (by simp <;> rfl) (by simp <;> rfl) (by simp [hn]) ?_
            simp [hn, h0, h18, h19, h20, q1, encPosts, encPost, iV, iD, bindRes, effBuild, effBuildSlice, effAppend, fillL, overlay, chunks, mset_other, max1]
            exact ⟨_, by omega, i + 1, rfl, hlt, wrapS hlt (by have := hl0.1; simp [maxLen]; omega), .inr ⟨_, by simp <;> rfl, by simp only [put_mem, setm_mem, mset_self]; rw [List.take_add_one, List.getElem?_map, hg2, ← List.map_take, q2]; simp [encPost, iD]⟩⟩
          · simp [hn, h0, h18, h19, h20, q1, q2, encPosts, encPost, iV, iD]
            refine vcall_of [.l .d] (v18 p.places (hl0.2 p hmem) (formed_places (hfo l0 (by simp)) hmem)) rfl cp18 (by simp <;> rfl) (by simp <;> rfl) (by simp [hn]) ?_
            have hil := hl0.1
            have e1 : (i + 1) * 32 ≤ 140737488355328 := by omega
            have e2 : i + 1 ≤ maxLen := by simp [maxLen]; omega
            simp [hn, h0, h18, h19, h20, q1, q2, encPosts, encPost, iV, iD, bindRes, effBuild, effBuildSlice, effAppend, fillL, overlay, chunks, mset_other, Nat.min_eq_left hi, e1, e2]
            exact ⟨_, by omega, i + 1, rfl, hlt, wrapS hlt (by simp [maxLen]; omega), .inr ⟨_, by simp <;> rfl, by simp only [put_mem, setm_mem, mset_self]; rw [List.take_add_one, List.getElem?_map, hg2]; simp [encPost, iD]⟩⟩
        · have hil : i = l0.length := by omega
          subst hil
          rw [List.take_length] at hA
          have hR : ReadsPosts st 4 l0 := by
            rcases hA with ⟨q1, q2⟩ | ⟨n, q1, q2⟩
            · have he : l0 = [] := by simpa using q2
              exact ⟨_, st.mem, q1, by simp [he, encPosts]⟩
            · exact ⟨_, _, q1, by simp [q2, encPosts] <;> rfl⟩
          simp [hn, h0, h18, h19, h20, encPosts, encLists, iV, iD, effSlice, show (1 : Int) ≤ (ls.length : Int) + 1 by omega]
          have hls := hf.1
          simp only [List.length_cons] at hls
          refine awp_loop (fun m st => ∃ (i : Nat) (found : List Pst), m = ls.length - i ∧ i ≤ ls.length ∧ st.n = 49 ∧ st.slot 35 = .l (.d (encLists ls)) ∧ st.slot 36 = iV ls.length ∧ st.slot 37 = iV i ∧ ReadsPosts st 4 found ∧ Fine found ∧ phr 0 l0 ls = phr i found (ls.drop i)) _ ⟨0, l0, rfl, ?_⟩ ?_
          · refine ⟨Nat.zero_le _, by simp [hn], ?_, ?_, ?_, by simpa [rp_put] using hR, hF0, rfl⟩
            · simp [encLists, encPosts]
              rw [List.take_of_length_le (by simp)]
            · simp [iV]
            · simp [iV]
          · clear hn h0 h18 h19 h20 hA hR hi hlt st
            rintro m st ⟨i, found, rfl, hi, hn, h35, h36, h37, hR, hF, hr⟩
            refine awp_of wide0 _ _ _ ?_
            obtain ⟨x, m', hx, hm'⟩ := hR
            by_cases hlt : i < ls.length
            · obtain ⟨l, hg, hg2, hmem, hd⟩ := drop_get hlt
              have hl := hf.2 l (by simp [hmem])
              have w1 : IntKind.i64.wrap ((i : Int) + 1) = ((i + 1 : Nat) : Int) := wrapS hlt (by simp [maxLen]; omega)
              simp [hn, h35, h36, h37, hx, encLists, iV, iD, hlt, hg, w1]
              refine vcall_of [.l .d, .l .d, .l .d] (v19 found l (i + 1) (by omega) hF (formed_fine (hfo l (by simp [hmem])) hl.1 hl.2)) rfl cp19 (by simp [-asD, asD_d, hx, hm', iD] <;> rfl) (by simp <;> rfl) (by simp [hn]) ?_
              simp [hn, h35, h36, h37, bindRes, encLists, iV, iD, w1]
              exact ⟨_, by omega, i + 1, rfl, hlt, rfl, behindGo (i + 1) l found, ⟨_, m', by simp <;> rfl, by simp⟩, behind_fine hF, by rw [hr, hd]; rfl⟩
            · have hfin : phr 0 l0 ls = found := by rw [hr, List.drop_eq_nil_of_le (by omega)]; rfl
              simp [-asD, asD_d, hn, h35, h36, h37, hx, hm', encLists, iV, iD, hlt, Post, finish, hfin]
              rfl
    · have hph : phrase (l0 :: ls) = ([], 1) := by simp only [phrase, hall]; rfl
      have hall' : (l0 :: ls).all formed = false := by simpa using hall
      rw [hph]
      simp only [hall']
      simp [Try.ntmps8, bindRes, guardVal, show ¬ (ls.length : Int) + 1 = 0 by omega, Post, finish, encPosts, iD]
end Go.Proofs.Ytfnplmglpbihhaa.Vm
