/- Functions over posts: formed or not. -/
import Derived.Test.YtfnplmglpbihhaaFb
namespace Go.Proofs.Ytfnplmglpbihhaa.Vm
open Go Go.RowKit
set_option maxRecDepth 10000
set_option linter.unusedSimpArgs false

def okPlaces (p : Pst) : Bool := decide (p.places ≠ []) && upTo (-1) 2147483647 p.places
def formed (l : List Pst) : Bool := l.all okPlaces && upTo (-1) 4095 (l.map (·.doc))

theorem v11 (l : List Pst) (hl : l.length ≤ maxLen) (hb : l.length ≤ 1000000) (hp : ∀ p ∈ l, p.places.length ≤ maxLen) : VFun Try.prog 11 [.l (.d (encPosts l))] [.l (.d (.v (.bool (formed l))))] [] := by
  refine vfun_of (rslots := [2]) (rmds := [.l .d]) (cmds := []) Try.func11 rfl rfl (by simp [Try.ntmps11]) (awp_of wide0 _ _ _ ?_)
  simp [Try.ntmps11, encPosts]
  refine awp_loop (fun m st => ∃ i : Nat, m = l.length - i ∧ i ≤ l.length ∧ st.n = 29 ∧ st.slot 0 = .l (.d (encPosts l)) ∧ st.slot 3 = iV i ∧ l.all okPlaces = (l.drop i).all okPlaces) _ ⟨0, rfl, ?_⟩ ?_
  · simp [encPosts, iV]
  · rintro m st ⟨i, rfl, hi, hn, h0, h3, hr⟩
    refine awp_of wide0 _ _ _ ?_
    by_cases hlt : i < l.length
    · obtain ⟨x, hg, hg2, hmem, hd⟩ := drop_get hlt
      by_cases c : x.places = []
      · have hall : formed l = false := by simp [formed, hr, hd, okPlaces, c]
        simp [hn, h0, h3, encPosts, encPost, encInts, iV, iD, hlt, hg, c, guardVal, Post, finish, hall]
      · have hlen : ¬ (x.places.length : Int) = 0 := by
          intro h; exact c (List.eq_nil_of_length_eq_zero (by omega))
        simp [hn, h0, h3, encPosts, encPost, encInts, iV, iD, hlt, hg, c, hlen, guardVal]
        refine vcall_of [.l .d, .l .d] (v22 x.places 2147483647 (hp x hmem)) rfl cp22 (by simp [h0, encInts, iD] <;> rfl) (by simp <;> rfl) (by simp [hn]) ?_
        cases hu : upTo (-1) 2147483647 x.places with
        | false =>
          have hall : formed l = false := by simp [formed, hr, hd, okPlaces, hu]
          simp [hn, h0, h3, c, hlen, bindRes, guardVal, Post, finish, hall]
        | true =>
          simp [hn, h0, h3, c, hlen, bindRes, guardVal, Post, finish, encPosts, iV]
          exact ⟨_, by omega, i + 1, rfl, hlt, wrapS hlt hl, by rw [hr, hd]; simp [okPlaces, c, hu]⟩
    · have hall : l.all okPlaces = true := by rw [hr, List.drop_eq_nil_of_le (by omega)]; rfl
      simp [hn, h0, h3, encPosts, iV, hlt]
      refine vcall_of [.l .d] (v23 l hl hb) rfl cp23 (by simp [h0, encPosts] <;> rfl) (by simp <;> rfl) (by simp [hn]) ?_
      simp [hn, bindRes]
      refine vcall_of [.l .d, .l .d] (v22 (l.map (·.doc)) 4095 (by simpa using hl)) rfl cp22 (by simp [h0, iD] <;> rfl) (by simp <;> rfl) (by simp [hn]) ?_
      simp [hn, bindRes, Post, finish, formed, hall]

theorem v10 (a b : List Pst) (hl : a.length ≤ maxLen) (hp : ∀ p ∈ a, p.places.length ≤ maxLen) : VFun Try.prog 10 [.l (.d (encPosts a)), .l (.d (encPosts b))] [.l (.d (.v (.bool (decide (a = b)))))] [] := by
  refine vfun_of (rslots := [4]) (rmds := [.l .d]) (cmds := []) Try.func10 rfl rfl (by simp [Try.ntmps10]) (awp_of wide0 _ _ _ ?_)
  by_cases hab : a.length = b.length
  · have hab' : (a.length : Int) = b.length := by omega
    simp [Try.ntmps10, encPosts, hab]
    refine awp_loop (fun m st => ∃ i : Nat, m = a.length - i ∧ i ≤ a.length ∧ st.n = 27 ∧ st.slot 0 = .l (.d (encPosts a)) ∧ st.slot 1 = .l (.d (encPosts b)) ∧ st.slot 5 = iV i ∧ decide (a = b) = decide (a.drop i = b.drop i)) _ ⟨0, rfl, ?_⟩ ?_
    · simp [encPosts, iV, iD]
    · rintro m st ⟨i, rfl, hi, hn, h0, h1, h5, hr⟩
      refine awp_of wide0 _ _ _ ?_
      by_cases hlt : i < a.length
      · obtain ⟨x, hg, _, hmem, hd⟩ := drop_get hlt
        obtain ⟨y, hg', _, _, hd'⟩ := drop_get (hab ▸ hlt : i < b.length)
        have hltb : i < b.length := hab ▸ hlt
        simp [hn, h0, h1, h5, encPosts, iV, iD, hlt, hltb, hg, hg']
        refine awp_drawn wide0 mixed [8] [] (by kernel_rfl) ?_
        simp [hn, h0, h1, h5, encPosts, encPost, iV, iD, hlt, hltb, hg, hg']
        refine vcall_of [.agg [.d, .d], .agg [.d, .d]] (v21 x y (hp x hmem)) rfl cp21 (by simp [iD, encInts] <;> rfl) (by simp <;> rfl) (by simp [hn]) ?_
        by_cases c : x = y
        · simp [hn, h0, h1, h5, encPosts, iV, iD, guardVal, Post, finish, hr, hd, hd', c, bindRes]
          exact ⟨_, by omega, i + 1, rfl, hlt, wrapS hlt hl, by simpa [hd, hd', c] using hr⟩
        · simp [hn, h0, h1, h5, encPosts, iV, iD, guardVal, Post, finish, hr, hd, hd', c, bindRes]
      · have hltb : ¬ i < b.length := hab ▸ hlt
        simp [hn, h0, h1, h5, encPosts, iV, hlt, hltb, Post, finish, hr, List.drop_eq_nil_of_le (Nat.not_lt.1 hlt), List.drop_eq_nil_of_le (Nat.not_lt.1 hltb)]
  · have hne : a ≠ b := fun e => hab (by rw [e])
    have hab' : ¬ (a.length : Int) = b.length := by omega
    simp [Try.ntmps10, encPosts, hab, hab', Post, finish, hne]

end Go.Proofs.Ytfnplmglpbihhaa.Vm
