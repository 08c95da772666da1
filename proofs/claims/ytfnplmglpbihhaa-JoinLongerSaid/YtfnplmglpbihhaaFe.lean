/- Posts: formed, as the program looks at it. -/
import Derived.Test.YtfnplmglpbihhaaFc
namespace Go.Proofs.Ytfnplmglpbihhaa.Vm
open Go Go.RowKit
set_option maxRecDepth 10000
set_option linter.unusedSimpArgs false

def formedGo (last : Int) : List Pst → Bool
  | [] => true
  | p :: l => if p.doc ≤ last ∨ 4095 < p.doc ∨ p.places = [] ∨ upTo (-1) 2147483647 p.places = false then false else formedGo p.doc l

theorem formedGo_eq : ∀ (l : List Pst) (last : Int), formedGo last l = (l.all okPlaces && upTo last 4095 (l.map (·.doc)))
  | [], last => rfl
  | p :: l, last => by
    simp only [formedGo, formedGo_eq l, List.all_cons, List.map_cons, upTo, okPlaces]
    cases upTo (-1) 2147483647 p.places <;> cases l.all okPlaces <;> cases upTo p.doc 4095 (l.map (·.doc)) <;> by_cases h1 : p.doc ≤ last <;> by_cases h2 : 4095 < p.doc <;> by_cases h3 : p.places = [] <;> simp [h1, h2, h3]

theorem formed_eq (l : List Pst) : formed l = formedGo (-1) l := (formedGo_eq l (-1)).symm

theorem v17 (l : List Pst) (hl : l.length ≤ maxLen) (hp : ∀ p ∈ l, p.places.length ≤ maxLen) : VFun Try.prog 17 [.l (.d (encPosts l))] [.l (.d (.v (.bool (formed l))))] [] := by
  refine vfun_of (rslots := [2]) (rmds := [.l .d]) (cmds := []) Try.func17 rfl rfl (by simp [Try.ntmps17]) (awp_of wide0 _ _ _ ?_)
  simp [Try.ntmps17, encPosts]
  refine awp_loop (fun m st => ∃ (i : Nat) (last : Int), m = l.length - i ∧ i ≤ l.length ∧ st.n = 49 ∧ st.slot 9 = .l (.d (encPosts l)) ∧ st.slot 10 = iV l.length ∧ st.slot 11 = iV i ∧ st.slot 3 = iV last ∧ formed l = formedGo last (l.drop i)) _ ⟨0, -1, rfl, ?_⟩ ?_
  · simp [encPosts, iV, formed_eq]
  · rintro m st ⟨i, last, rfl, hi, hn, h9, h10, h11, h3, hr⟩
    refine awp_of wide0 _ _ _ ?_
    by_cases hlt : i < l.length
    · obtain ⟨x, hg, hg2, hmem, hd⟩ := drop_get hlt
      have hxl := hp x hmem
      rcases lge last x.doc with ⟨c1, d1⟩ | ⟨c1, d1⟩
      · rcases lge 4095 x.doc with ⟨c2, d2⟩ | ⟨c2, d2⟩
        · have hf : formed l = false := by simp [hr, hd, formedGo, c2]
          simp [hn, h9, h10, h11, h3, encPosts, encPost, iV, iD, hlt, hg, c1, d1, c2, d2, effNew, effStore, overlay, guardVal, Post, finish, hf]
        · by_cases c3 : x.places = []
          · have hf : formed l = false := by simp [hr, hd, formedGo, c3]
            simp [hn, h9, h10, h11, h3, encPosts, encPost, encInts, iV, iD, hlt, hg, c1, d1, c2, d2, c3, effNew, effStore, overlay, guardVal, Post, finish, hf]
          · have hlen : ¬ (x.places.length : Int) = 0 := by
              intro h; exact c3 (List.eq_nil_of_length_eq_zero (by omega))
            simp [hn, h9, h10, h11, h3, encPosts, encPost, encInts, iV, iD, hlt, hg, c1, d1, c2, d2, c3, hlen, effNew, effStore, overlay, guardVal]
            refine awp_loop (fun m st => ∃ (j : Nat) (at_ : Int), m = x.places.length - j ∧ j ≤ x.places.length ∧ st.n = 49 ∧ st.slot 9 = .l (.d (encPosts l)) ∧ st.slot 10 = iV l.length ∧ st.slot 11 = iV i ∧ st.slot 3 = iV x.doc ∧
              st.slot 33 = .l (.d (encInts x.places)) ∧ st.slot 34 = iV x.places.length ∧ st.slot 35 = iV j ∧ st.slot 6 = iV at_ ∧ upTo (-1) 2147483647 x.places = upTo at_ 2147483647 (x.places.drop j)) _ ⟨0, -1, rfl, ?_⟩ ?_
            · simp [hn, h9, h10, h11, h3, encPosts, encPost, encInts, iV, iD]
            · clear h9 h10 h11 h3 hn st
              rintro m st ⟨j, at_, rfl, hj, hn, h9, h10, h11, h3, h33, h34, h35, h6, hu⟩
              refine awp_of wide0 _ _ _ ?_
              by_cases hjl : j < x.places.length
              · obtain ⟨y, hy, hy2, _, hyd⟩ := drop_get hjl
                by_cases c4 : y ≤ at_ ∨ 2147483647 < y
                · have hf : formed l = false := by simp [hr, hd, formedGo, hu, hyd, upTo, c4]
                  rcases lge at_ y with ⟨e1, f1⟩ | ⟨e1, f1⟩ <;> rcases lge 2147483647 y with ⟨e2, f2⟩ | ⟨e2, f2⟩ <;>
                  first
                  | (exfalso; omega)
                  | simp [hn, h9, h10, h11, h3, h33, h34, h35, h6, encPosts, encPost, encInts, iV, iD, hjl, hy, e1, f1, e2, f2, guardVal, Post, finish, hf]
                · have e1 : ¬ y ≤ at_ := by omega
                  have e2 : ¬ 2147483647 < y := by omega
                  simp [hn, h9, h10, h11, h3, h33, h34, h35, h6, encPosts, encPost, encInts, iV, iD, hjl, hy, e1, e2, guardVal]
                  exact ⟨_, by omega, j + 1, rfl, hjl, wrapS hjl hxl, by rw [hu, hyd]; simp [upTo, e1, e2]⟩
              · have hut : upTo (-1) 2147483647 x.places = true := by rw [hu, List.drop_eq_nil_of_le (by omega)]; rfl
                simp [hn, h9, h10, h11, h3, h33, h34, h35, h6, encPosts, encPost, encInts, iV, iD, hjl]
                exact ⟨_, by omega, i + 1, rfl, hlt, wrapS hlt hl, by rw [hr, hd]; simp [formedGo, d1, d2, c3, hut]⟩
      · have hf : formed l = false := by simp [hr, hd, formedGo, c1]
        simp [hn, h9, h10, h11, h3, encPosts, encPost, iV, iD, hlt, hg, c1, d1, effNew, effStore, overlay, guardVal, Post, finish, hf]
    · have hf : formed l = true := by rw [hr, List.drop_eq_nil_of_le (by omega)]; rfl
      simp [hn, h9, h10, h11, h3, encPosts, iV, hlt, Post, finish, hf]

theorem v16 (l : List Pst) (hl : l.length ≤ maxLen) (hp : ∀ p ∈ l, p.places.length ≤ maxLen) : VFun Try.prog 16 [.l (.d (encPosts l))] [.l (.d (.v (.bool (!formed l))))] [] := by
  refine vfun_of (rslots := [2]) (rmds := [.l .d]) (cmds := []) Try.func16 rfl rfl (by simp [Try.ntmps16]) (awp_of wide0 _ _ _ ?_)
  simp [Try.ntmps16]
  refine vcall_of [.l .d] (v17 l hl hp) rfl cp17 (by simp <;> rfl) (by simp <;> rfl) (by simp [Try.ntmps16]) ?_
  simp [Try.ntmps16, bindRes, Post, finish]

def badGo (i : Nat) : List (List Pst) → Int
  | [] => -1
  | x :: l => if formed x = true then badGo (i + 1) l else i

theorem badGo_eq : ∀ (l : List (List Pst)) (i : Nat), decide (0 ≤ badGo i l) = !(l.all formed)
  | [], i => rfl
  | x :: l, i => by
    unfold badGo
    cases h : formed x with
    | true => simp [h, badGo_eq l]
    | false => simp [h]

/-- Lists that are within bounds. -/
def Fits (ls : List (List Pst)) : Prop := ls.length ≤ 1000000 ∧ ∀ l ∈ ls, l.length ≤ 1000000 ∧ ∀ p ∈ l, p.places.length ≤ 1000000

theorem v25 (ls : List (List Pst)) (hf : Fits ls) : VFun Try.prog 25 [.l (.d (encLists ls)), .clo 16 []] [.l (.d (iD (badGo 0 ls)))] [] := by
  refine vfun_of (rslots := [4]) (rmds := [.l .d]) (cmds := []) Try.func25 rfl rfl (by simp [Try.ntmps25]) (awp_of wide0 _ _ _ ?_)
  simp [Try.ntmps25, encLists, fromPtrs]
  refine awp_loop (fun m st => ∃ i : Nat, m = ls.length - i ∧ i ≤ ls.length ∧ st.n = 19 ∧ st.slot 0 = .l (.d (encLists ls)) ∧ st.slot 1 = .l (.clo 16 []) ∧ st.slot 7 = iV ls.length ∧ st.slot 8 = iV i ∧ badGo 0 ls = badGo i (ls.drop i)) _ ⟨0, rfl, ?_⟩ ?_
  · simp [encLists, iV, fromPtrs]
  · rintro m st ⟨i, rfl, hi, hn, h0, h1, h7, h8, hr⟩
    refine awp_of wide0 _ _ _ ?_
    by_cases hlt : i < ls.length
    · obtain ⟨x, hg, hg2, hmem, hd⟩ := drop_get hlt
      simp [hn, h0, h1, h7, h8, encLists, iV, iD, hlt, hg]
      have hx := hf.2 x hmem
      refine vcall_of [.l .d] (v16 x (by have := hx.1; simp [maxLen]; omega) (fun p hp => by have := hx.2 p hp; simp [maxLen]; omega)) (by simp [h1] <;> rfl) cp16 (by simp <;> rfl) (by simp <;> rfl) (by simp [hn]) ?_
      cases c : formed x with
      | true =>
        simp [hn, h0, h1, h7, h8, bindRes, iV, iD, encLists]
        exact ⟨_, by omega, i + 1, rfl, hlt, wrapS hlt (by have := hf.1; simp [maxLen]; omega), by rw [hr, hd]; simp [badGo, c]⟩
      | false =>
        simp [hn, h0, h1, h7, h8, bindRes, iV, iD, Post, finish, hr, hd, badGo, c]
    · simp [hn, h0, h1, h7, h8, encLists, iV, iD, hlt, Post, finish, hr, List.drop_eq_nil_of_le (Nat.not_lt.1 hlt), badGo]

theorem v15 (ls : List (List Pst)) (hf : Fits ls) : VFun Try.prog 15 [.l (.d (encLists ls)), .clo 16 []] [.l (.d (.v (.bool (!(ls.all formed)))))] [] := by
  refine vfun_of (rslots := [4]) (rmds := [.l .d]) (cmds := []) Try.func15 rfl rfl (by simp [Try.ntmps15]) (awp_of wide0 _ _ _ ?_)
  simp [Try.ntmps15, fromPtrs]
  refine vcall_of [.l .d, .clo []] (v25 ls hf) rfl cp25 (by simp [fromPtrs] <;> rfl) (by simp [fromPtrs] <;> rfl) (by simp [Try.ntmps15]) ?_
  have := badGo_eq ls 0
  simp only [← this]
  simp [Try.ntmps15, bindRes, Post, finish, iD]
end Go.Proofs.Ytfnplmglpbihhaa.Vm
