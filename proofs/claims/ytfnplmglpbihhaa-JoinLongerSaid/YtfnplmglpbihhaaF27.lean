/- join.Rises -/
import Derived.Test.YtfnplmglpbihhaaFa
namespace Go.Proofs.Ytfnplmglpbihhaa.Vm
open Go Go.RowKit
set_option maxRecDepth 10000
set_option linter.unusedSimpArgs false
set_option linter.unusedVariables false

def risesGo (last : Int) : List Int → Bool
  | [] => true
  | n :: l => if n ≤ last ∨ n ≥ 4096 then false else risesGo n l

theorem v27 (l : List Int) (hl : l.length ≤ maxLen) : VFun Try.prog 27 [.l (.d (encInts l))] [.l (.d (.v (.bool (risesGo (-1) l))))] [] := by
  refine vfun_of (rslots := [2]) (rmds := [.l .d]) (cmds := []) Try.func27 rfl rfl (by simp [Try.ntmps27]) (awp_of wide0 _ _ _ ?_)
  simp [Try.ntmps27, encInts]
  refine awp_loop (fun m st => ∃ (i : Nat) (last : Int), m = l.length - i ∧ i ≤ l.length ∧ st.n = 21 ∧ st.slot 6 = .l (.d (encInts l)) ∧ st.slot 7 = iV l.length ∧ st.slot 8 = iV i ∧ st.slot 3 = iV last ∧ risesGo (-1) l = risesGo last (l.drop i)) _ ⟨0, -1, rfl, ?_⟩ ?_
  · simp [encInts, iV]
  · rintro m st ⟨i, last, rfl, hi, hn, h6, h7, h8, h3, hr⟩
    refine awp_of wide0 _ _ _ ?_
    by_cases hlt : i < l.length
    · obtain ⟨n, hg, _, _, hd⟩ := drop_get hlt
      rcases lge last n with ⟨c1, d1⟩ | ⟨c1, d1⟩ <;> rcases lge n 4096 with ⟨c2, d2⟩ | ⟨c2, d2⟩ <;>
      simp [hn, h6, h7, h8, h3, encInts, iV, iD, hlt, hg, guardVal, Post, finish, hr, hd, risesGo, c1, c2, d1, d2]
      exact ⟨_, by omega, i + 1, rfl, hlt, wrapS hlt hl, rfl⟩
    · simp [hn, h6, h7, h8, h3, encInts, iV, hlt, Post, finish, hr, List.drop_eq_nil_of_le (Nat.not_lt.1 hlt), risesGo]
end Go.Proofs.Ytfnplmglpbihhaa.Vm
