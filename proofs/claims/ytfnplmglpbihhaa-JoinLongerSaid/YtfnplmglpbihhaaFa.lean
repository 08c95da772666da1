/- Small functions over numbers and posts. -/
import Derived.Test.YtfnplmglpbihhaaVmT
import Derived.Test.YtfnplmglpbihhaaVmL
namespace Go.Proofs.Ytfnplmglpbihhaa.Vm
open Go Go.RowKit
set_option maxRecDepth 10000
set_option linter.unusedSimpArgs false

def encInts (l : List Int) : D := .sl (l.map fun n => [iD n])

structure Pst where
  doc : Int
  places : List Int
  deriving DecidableEq

def encPost (p : Pst) : List D := [iD p.doc, encInts p.places]
def encPosts (l : List Pst) : D := .sl (l.map encPost)
def encLists (l : List (List Pst)) : D := .sl (l.map fun x => [encPosts x])

/-- Numbers that rise, above the last one, to the most. -/
def upTo (last most : Int) : List Int → Bool
  | [] => true
  | n :: l => if n ≤ last ∨ most < n then false else upTo n most l

theorem v12 (l : List Int) (n : Int) (hl : l.length ≤ maxLen) : VFun Try.prog 12 [.l (.d (encInts l)), .l (.d (iD n))] [.l (.d (.v (.bool (decide (n ∈ l)))))] [] := by
  refine vfun_of (rslots := [4]) (rmds := [.l .d]) (cmds := []) Try.func12 rfl rfl (by simp [Try.ntmps12]) (awp_of wide0 _ _ _ ?_)
  simp [Try.ntmps12, encInts]
  refine awp_loop (fun m st => ∃ i : Nat, m = l.length - i ∧ i ≤ l.length ∧ st.n = 18 ∧ st.slot 0 = .l (.d (encInts l)) ∧ st.slot 1 = iV n ∧ st.slot 5 = iV i ∧ decide (n ∈ l) = decide (n ∈ l.drop i)) _ ⟨0, rfl, ?_⟩ ?_
  · simp [encInts, iV, iD]
  · rintro m st ⟨i, rfl, hi, hn, h0, h1, h5, hr⟩
    refine awp_of wide0 _ _ _ ?_
    by_cases hlt : i < l.length
    · obtain ⟨x, hg, _, _, hd⟩ := drop_get hlt
      rcases cmp x n with ⟨c, c1, c2, c3, c4, c5⟩ | ⟨rfl, c1, c2⟩ | ⟨c, c1, c2, c3, c4, c5⟩ <;>
      simp [hn, h0, h1, h5, encInts, iV, iD, hlt, hg, guardVal, Post, finish, hr, hd, *]
      all_goals exact ⟨_, by omega, i + 1, rfl, hlt, wrapS hlt hl, by first | rfl | simp⟩
    · simp [hn, h0, h1, h5, encInts, iV, hlt, Post, finish, hr, List.drop_eq_nil_of_le (Nat.not_lt.1 hlt)]

theorem v14 (a b : List Int) (hl : a.length ≤ maxLen) : VFun Try.prog 14 [.l (.d (encInts a)), .l (.d (encInts b))] [.l (.d (.v (.bool (decide (a = b)))))] [] := by
  refine vfun_of (rslots := [4]) (rmds := [.l .d]) (cmds := []) Try.func14 rfl rfl (by simp [Try.ntmps14]) (awp_of wide0 _ _ _ ?_)
  by_cases hab : a.length = b.length
  · have hab' : (a.length : Int) = b.length := by omega
    simp [Try.ntmps14, encInts, hab]
    refine awp_loop (fun m st => ∃ i : Nat, m = a.length - i ∧ i ≤ a.length ∧ st.n = 26 ∧ st.slot 0 = .l (.d (encInts a)) ∧ st.slot 1 = .l (.d (encInts b)) ∧ st.slot 5 = iV i ∧ decide (a = b) = decide (a.drop i = b.drop i)) _ ⟨0, rfl, ?_⟩ ?_
    · simp [encInts, iV, iD]
    · rintro m st ⟨i, rfl, hi, hn, h0, h1, h5, hr⟩
      refine awp_of wide0 _ _ _ ?_
      by_cases hlt : i < a.length
      · obtain ⟨x, hg, _, _, hd⟩ := drop_get hlt
        obtain ⟨y, hg', _, _, hd'⟩ := drop_get (hab ▸ hlt : i < b.length)
        have hltb : i < b.length := hab ▸ hlt
        simp [hn, h0, h1, h5, encInts, iV, iD, hlt, hltb, hg, hg']
        refine awp_drawn wide0 mixed [] [] (by kernel_rfl) ?_
        by_cases c : x = y
        · simp [hn, h0, h1, h5, encInts, iV, iD, hlt, hltb, hg, hg', guardVal, Post, finish, hr, hd, hd', c]
          exact ⟨_, by omega, i + 1, rfl, hlt, wrapS hlt hl, by simpa [hd, hd', c] using hr⟩
        · simp [hn, h0, h1, h5, encInts, iV, iD, hlt, hltb, hg, hg', guardVal, Post, finish, hr, hd, hd', c]
      · have hltb : ¬ i < b.length := hab ▸ hlt
        simp [hn, h0, h1, h5, encInts, iV, hlt, hltb, Post, finish, hr, List.drop_eq_nil_of_le (Nat.not_lt.1 hlt), List.drop_eq_nil_of_le (Nat.not_lt.1 hltb)]
  · have hne : a ≠ b := fun e => hab (by rw [e])
    have hab' : ¬ (a.length : Int) = b.length := by omega
    simp [Try.ntmps14, encInts, hab, hab', Post, finish, hne]

def atGo (doc : Int) : List Pst → List Int
  | [] => []
  | p :: l => if p.doc = doc then p.places else atGo doc l

theorem v20 (l : List Pst) (doc : Int) (hl : l.length ≤ maxLen) : VFun Try.prog 20 [.l (.d (encPosts l)), .l (.d (iD doc))] [.l (.d (encInts (atGo doc l)))] [] := by
  refine vfun_of (rslots := [4]) (rmds := [.l .d]) (cmds := []) Try.func20 rfl rfl (by simp [Try.ntmps20]) (awp_of wide0 _ _ _ ?_)
  simp [Try.ntmps20, encPosts]
  refine awp_loop (fun m st => ∃ i : Nat, m = l.length - i ∧ i ≤ l.length ∧ st.n = 24 ∧ st.slot 0 = .l (.d (encPosts l)) ∧ st.slot 1 = iV doc ∧ st.slot 5 = iV i ∧ atGo doc l = atGo doc (l.drop i)) _ ⟨0, rfl, ?_⟩ ?_
  · simp [encPosts, iV, iD]
  · rintro m st ⟨i, rfl, hi, hn, h0, h1, h5, hr⟩
    refine awp_of wide0 _ _ _ ?_
    by_cases hlt : i < l.length
    · obtain ⟨x, hg, _, _, hd⟩ := drop_get hlt
      by_cases c : x.doc = doc <;>
      simp [hn, h0, h1, h5, encPosts, encPost, iV, iD, hlt, hg, guardVal, Post, finish, hr, hd, atGo, c]
      · exact ⟨_, by omega, i + 1, rfl, hlt, wrapS hlt hl, by first | rfl | simp⟩
    · simp [hn, h0, h1, h5, encPosts, encInts, iV, hlt, Post, finish, hr, List.drop_eq_nil_of_le (Nat.not_lt.1 hlt), atGo]

end Go.Proofs.Ytfnplmglpbihhaa.Vm
