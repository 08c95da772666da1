/- Whether more is handed in than is looked at. -/
import Derived.Test.YtfnplmglpbihhaaFe
namespace Go.Proofs.Ytfnplmglpbihhaa.Vm
open Go Go.RowKit
set_option maxRecDepth 10000
set_option linter.unusedSimpArgs false

def capped (k : Nat) : Int := if (1000 : Int) < k then 1000 else k

def gInner (n : Int) : List Pst → Int
  | [] => n
  | p :: l => if n ≤ 300 then gInner (n + capped p.places.length) l else n

def gOuter (n : Int) : List (List Pst) → Int
  | [] => n
  | l :: ls => if n ≤ 300 then gOuter (gInner (n + capped l.length) l) ls else n

def great (ls : List (List Pst)) : Bool := decide (300 < gOuter ls.length ls)

theorem capped_nonneg (k : Nat) : 0 ≤ capped k := by unfold capped; split <;> omega
theorem capped_le (k : Nat) : capped k ≤ 1000 := by unfold capped; split <;> omega
theorem of_capped {k : Nat} (h : capped k ≤ 300) : k ≤ 300 := by unfold capped at h; split at h <;> omega

theorem gInner_le : ∀ (l : List Pst) (n : Int), n ≤ gInner n l
  | [], n => Int.le_refl _
  | p :: l, n => by
    unfold gInner
    split
    · have := gInner_le l (n + capped p.places.length); have := capped_nonneg p.places.length; omega
    · exact Int.le_refl _

theorem gOuter_le : ∀ (l : List (List Pst)) (n : Int), n ≤ gOuter n l
  | [], n => Int.le_refl _
  | p :: l, n => by
    unfold gOuter
    split
    · have := gOuter_le l (gInner (n + capped p.length) p); have := gInner_le p (n + capped p.length); have := capped_nonneg p.length; omega
    · exact Int.le_refl _

theorem gInner_fits : ∀ (l : List Pst) (n : Int), 0 ≤ n → gInner n l ≤ 300 → ∀ p ∈ l, p.places.length ≤ 300
  | [], n, _, _ => fun p hp => by cases hp
  | q :: l, n, h0, h => by
    have hn : n ≤ 300 := by have := gInner_le (q :: l) n; omega
    unfold gInner at h
    rw [if_pos hn] at h
    have h1 := gInner_le l (n + capped q.places.length)
    have h2 := capped_nonneg q.places.length
    intro p hp
    rcases List.mem_cons.1 hp with rfl | hp
    · exact of_capped (by omega)
    · exact gInner_fits l _ (by omega) h p hp

theorem gOuter_fits : ∀ (ls : List (List Pst)) (n : Int), 0 ≤ n → gOuter n ls ≤ 300 → ∀ l ∈ ls, l.length ≤ 300 ∧ ∀ p ∈ l, p.places.length ≤ 300
  | [], n, _, _ => fun p hp => by cases hp
  | q :: l, n, h0, h => by
    have hn : n ≤ 300 := by have := gOuter_le (q :: l) n; omega
    unfold gOuter at h
    rw [if_pos hn] at h
    have h1 := gOuter_le l (gInner (n + capped q.length) q)
    have h2 := gInner_le q (n + capped q.length)
    have h3 := capped_nonneg q.length
    intro p hp
    rcases List.mem_cons.1 hp with rfl | hp
    · exact ⟨of_capped (by omega), gInner_fits p (n + capped p.length) (by omega) (by omega)⟩
    · exact gOuter_fits l _ (by omega) h p hp

theorem great_fits {ls : List (List Pst)} (h : great ls = false) : ls.length ≤ 300 ∧ ∀ l ∈ ls, l.length ≤ 300 ∧ ∀ p ∈ l, p.places.length ≤ 300 := by
  have h' : gOuter ls.length ls ≤ 300 := by simpa [great] using h
  exact ⟨by have := gOuter_le ls ls.length; omega, gOuter_fits ls _ (by omega) h'⟩

theorem v6 (ls : List (List Pst)) (h1 : ls.length ≤ maxLen) (h2 : ∀ l ∈ ls, l.length ≤ maxLen) : VFun Try.prog 6 [.l (.d (encLists ls))] [.l (.d (.v (.bool (great ls))))] [] := by
  have hM : (maxLen : Int) = 9223372036854775807 ∨ (maxLen : Int) < 9223372036854775807 := by simp [maxLen]
  refine vfun_of (rslots := [2]) (rmds := [.l .d]) (cmds := []) Try.func6 rfl rfl (by simp [Try.ntmps6]) (awp_of wide0 _ _ _ ?_)
  simp [Try.ntmps6, encLists]
  refine awp_loop (fun m st => ∃ (i : Nat) (n : Int), m = ls.length - i ∧ i ≤ ls.length ∧ st.n = 53 ∧ st.slot 0 = .l (.d (encLists ls)) ∧ st.slot 3 = iV n ∧ st.slot 4 = iV i ∧ gOuter ls.length ls = gOuter n (ls.drop i) ∧ 0 ≤ n) _ ⟨0, ls.length, rfl, ?_⟩ ?_
  · simp [encLists, iV]
  · rintro m st ⟨i, n, rfl, hi, hn, h0, h3, h4, hr, hn0⟩
    refine awp_of wide0 _ _ _ ?_
    by_cases hlt : i < ls.length
    · obtain ⟨x, hg, hg2, hmem, hd⟩ := drop_get hlt
      have hxl := h2 x hmem
      rcases lge 300 n with ⟨c1, d1⟩ | ⟨c1, d1⟩
      · have hgr : great ls = true := by simp [great, hr, hd, gOuter, d1, c1]
        simp [hn, h0, h3, h4, encLists, iV, iD, hlt, hg, c1, d1, guardVal, Post, finish, hgr]
      · have c := capped_nonneg x.length
        have c' := capped_le x.length
        have w1 : IntKind.i64.wrap (n + capped x.length) = n + capped x.length := wrap64 (by omega) (by omega)
        have ec : (if (1000 : Int) < x.length then 1000 else (x.length : Int)) = capped x.length := rfl
        simp [hn, h0, h3, h4, encLists, encPosts, iV, iD, hlt, hg, c1, d1, guardVal, ec, w1]
        refine awp_loop (fun m st => ∃ (k : Nat) (n' : Int), m = x.length - k ∧ k ≤ x.length ∧ st.n = 53 ∧ st.slot 0 = .l (.d (encLists ls)) ∧ st.slot 3 = iV n' ∧ st.slot 4 = iV i ∧ st.slot 5 = iV k ∧ gInner (n + capped x.length) x = gInner n' (x.drop k) ∧ 0 ≤ n') _ ⟨0, n + capped x.length, rfl, ?_⟩ ?_
        · simp [hn, h0, h4, encLists, encPosts, iV, iD]; omega
        · clear hn h0 h3 h4 st
          rintro m st ⟨k, n', rfl, hk, hn, h0, h3, h4, h5, hi', hn0'⟩
          refine awp_of wide0 _ _ _ ?_
          by_cases hkl : k < x.length
          · obtain ⟨y, hy, hy2, _, hyd⟩ := drop_get hkl
            rcases lge 300 n' with ⟨e1, f1⟩ | ⟨e1, f1⟩
            · have hin : gInner (n + capped x.length) x = n' := by rw [hi', hyd]; simp [gInner, f1]
              simp [hn, h0, h3, h4, h5, encLists, encPosts, iV, iD, hlt, hg, hkl, e1, f1, guardVal]
              exact ⟨_, by omega, i + 1, rfl, hlt, wrapS hlt h1, by rw [hr, hd]; simp [gOuter, c1, hin], hn0'⟩
            · have q := capped_nonneg y.places.length
              have q' := capped_le y.places.length
              have w2 : IntKind.i64.wrap (n' + capped y.places.length) = n' + capped y.places.length := wrap64 (by omega) (by omega)
              have ec2 : (if (1000 : Int) < y.places.length then 1000 else (y.places.length : Int)) = capped y.places.length := rfl
              simp [hn, h0, h3, h4, h5, encLists, encPosts, encPost, encInts, iV, iD, hlt, hg, hkl, hy, e1, f1, guardVal, ec2, w2]
              exact ⟨_, by omega, k + 1, rfl, hkl, wrapS hkl hxl, by rw [hi', hyd]; simp [gInner, e1], by omega⟩
          · have hin : gInner (n + capped x.length) x = n' := by rw [hi', List.drop_eq_nil_of_le (by omega)]; rfl
            simp [hn, h0, h3, h4, h5, encLists, encPosts, iV, iD, hlt, hg, hkl, guardVal]
            exact ⟨_, by omega, i + 1, rfl, hlt, wrapS hlt h1, by rw [hr, hd]; simp [gOuter, c1, hin], hn0'⟩
    · have hgr : great ls = decide (300 < n) := by simp [great, hr, List.drop_eq_nil_of_le (Nat.not_lt.1 hlt), gOuter]
      simp [hn, h0, h3, h4, encLists, iV, iD, hlt, guardVal, Post, finish, hgr]
end Go.Proofs.Ytfnplmglpbihhaa.Vm
