/- Functions of the library: clone, compare, search. -/
import Derived.Test.YtfnplmglpbihhaaFa
namespace Go.Proofs.Ytfnplmglpbihhaa.Vm
open Go Go.RowKit
set_option maxRecDepth 10000
set_option linter.unusedSimpArgs false

theorem v18 (l : List Int) (hl : l.length ≤ 1000000) (hne : l ≠ []) : VFun Try.prog 18 [.l (.d (encInts l))] [.l (.d (encInts l))] [] := by
  refine vfun_of (rslots := [2]) (rmds := [.l .d]) (cmds := []) Try.func18 rfl rfl (by simp [Try.ntmps18]) (awp_of wide0 _ _ _ ?_)
  cases l with
  | nil => exact absurd rfl hne
  | cons x l =>
    have hl' : l.length + 1 ≤ 1000000 := by simpa using hl
    simp [Try.ntmps18, encInts, effBuildSlice, effAppend, fillL, overlay, chunks, mset_other, iD, Post, finish, show (l.length + 1) * 8 ≤ 140737488355328 by omega, show l.length + 1 ≤ maxLen by simp [maxLen]; omega]

theorem v31 (n : Int) : VFun Try.prog 31 [.l (.d (iD n))] [.l (.d (.v (.bool false)))] [] := by
  refine vfun_of (rslots := [2]) (rmds := [.l .d]) (cmds := []) Try.func31 rfl rfl (by simp [Try.ntmps31]) (awp_of wide0 _ _ _ ?_)
  simp [Try.ntmps31, iD, Post, finish]

theorem v30 (n : Int) : VFun Try.prog 30 [.l (.d (iD n))] [.l (.d (.v (.bool false)))] [] := by
  refine vfun_of (rslots := [2]) (rmds := [.l .d]) (cmds := []) Try.func30 rfl rfl (by simp [Try.ntmps30]) (awp_of wide0 _ _ _ ?_)
  simp [Try.ntmps30, iD, Post, finish]

theorem v29 (x y : Int) : VFun Try.prog 29 [.l (.d (iD x)), .l (.d (iD y))] [.l (.d (.v (.bool (decide (x < y)))))] [] := by
  refine vfun_of (rslots := [4]) (rmds := [.l .d]) (cmds := []) Try.func29 rfl rfl (by simp [Try.ntmps29]) (awp_of wide0 _ _ _ ?_)
  simp [Try.ntmps29, iD]
  refine vcall_of [.l .d] (v31 x) rfl cp31 (by simp [iD] <;> rfl) (by simp <;> rfl) (by simp [Try.ntmps29]) ?_
  simp [Try.ntmps29, iD, bindRes, guardVal, Post, finish]

def below (t : Int) (l : List Int) : Nat := l.countP (decide <| · < t)

theorem below_le (t : Int) (l : List Int) : below t l ≤ l.length := List.countP_le_length

theorem lt_below (t : Int) : ∀ {l : List Int} (h : Nat), l.Pairwise (· < ·) → (hh : h < l.length) → (l[h] < t ↔ h < below t l)
  | x :: l, 0, hs, hh => by
    simp only [List.getElem_cons_zero, below, List.countP_cons]
    constructor
    · intro h; simp [h]
    · intro h
      by_cases hx : x < t
      · exact hx
      · simp [hx] at h
        obtain ⟨y, hy, hyt⟩ := h
        have := (List.pairwise_cons.1 hs).1 y hy
        omega
  | x :: l, h + 1, hs, hh => by
    have ih := lt_below t h (List.pairwise_cons.1 hs).2 (by simpa using hh)
    simp only [List.getElem_cons_succ, below, List.countP_cons] at ih ⊢
    rw [ih]
    by_cases hx : x < t
    · simp [hx]
    · have hz : l.countP (decide <| · < t) = 0 := by
        rw [List.countP_eq_zero]
        intro y hy
        have := (List.pairwise_cons.1 hs).1 y hy
        simp; omega
      simp [hx, hz]

theorem mem_below {t : Int} {l : List Int} (hs : l.Pairwise (· < ·)) : t ∈ l ↔ ∃ h : below t l < l.length, l[below t l] = t := by
  constructor
  · intro ht
    obtain ⟨i, hi, hit⟩ := List.getElem_of_mem ht
    have h1 : ¬ i < below t l := fun h => by have := (lt_below t i hs hi).2 h; omega
    have h2 : below t l < l.length := by omega
    have h3 : ¬ l[below t l] < t := fun h => by have := (lt_below t _ hs h2).1 h; omega
    refine ⟨h2, ?_⟩
    by_cases he : below t l = i
    · simp [he, hit]
    · have := List.pairwise_iff_getElem.1 hs _ _ h2 hi (by omega)
      omega
  · rintro ⟨h, e⟩
    exact e ▸ List.getElem_mem h

theorem v26 (l : List Int) (t : Int) (hl : l.length ≤ 1000000) (hs : l.Pairwise (· < ·)) :
    VFun Try.prog 26 [.l (.d (encInts l)), .l (.d (iD t))] [.l (.d (iD (below t l))), .l (.d (.v (.bool (decide (t ∈ l)))))] [] := by
  refine vfun_of (rslots := [4, 5]) (rmds := [.l .d, .l .d]) (cmds := []) Try.func26 rfl rfl (by simp [Try.ntmps26]) (awp_of wide0 _ _ _ ?_)
  simp [Try.ntmps26, encInts]
  refine awp_loop (fun m st => ∃ i j : Nat, m = j - i ∧ i ≤ below t l ∧ below t l ≤ j ∧ j ≤ l.length ∧ st.n = 54 ∧ st.slot 0 = .l (.d (encInts l)) ∧ st.slot 1 = iV t ∧ st.slot 6 = iV l.length ∧ st.slot 7 = iV i ∧ st.slot 8 = iV j) _ ⟨0, l.length, rfl, Nat.zero_le _, below_le _ _, Nat.le_refl _, ?_⟩ ?_
  · simp [encInts, iV, iD]
  · rintro m st ⟨i, j, rfl, hi, hj, hjl, hn, h0, h1, h6, h7, h8⟩
    refine awp_of wide0 _ _ _ ?_
    by_cases hlt : i < j
    · have w1 : IntKind.i64.wrap ((i : Int) + j) = (i : Int) + j := by rw [wrap64 (by omega) (by omega)]
      have w2 : IntKind.u64.wrap ((i : Int) + j) = (i : Int) + j := by simp [IntKind.wrap, IntKind.bits, IntKind.signed]; omega
      have w4 : IntKind.i64.wrap (((i : Int) + j).fdiv (2 ^ min 1 IntKind.u64.bits)) = (((i + j) / 2 : Nat) : Int) := by
        have : (2 : Int) ^ (min 1 IntKind.u64.bits) = 2 := by decide
        rw [this, Int.fdiv_eq_ediv_of_nonneg _ (by decide), wrap64 (by omega) (by omega)]
        omega
      generalize hh : (i + j) / 2 = h at *
      have hhl : h < l.length := by omega
      have w5 := wrapS (i := h) (n := l.length) hhl (by simp [maxLen]; omega)
      obtain ⟨x, hg, hg2, _, _⟩ := drop_get hhl
      have key := lt_below t h hs hhl
      rw [hg] at key
      simp [hn, h0, h1, h6, h7, h8, encInts, iV, iD, hlt, shiftInt, w1, w2, w4, hhl, hg]
      refine vcall_of [.l .d, .l .d] (v29 x t) rfl cp29 (by simp [iD, h1, iV] <;> rfl) (by simp <;> rfl) (by simp [hn]) ?_
      by_cases c : x < t
      · simp [hn, h0, h1, h6, h7, h8, encInts, iV, iD, bindRes, c, w5]
        exact ⟨_, by omega, h + 1, j, rfl, key.1 c, hj, hjl, rfl, rfl⟩
      · simp [hn, h0, h1, h6, h7, h8, encInts, iV, iD, bindRes, c, w5]
        exact ⟨_, by omega, i, h, rfl, hi, by omega, by omega, rfl, rfl⟩
    · have hib : i = below t l := by omega
      subst hib
      have hm := mem_below (t := t) hs
      by_cases hb : below t l < l.length
      · obtain ⟨x, hg, hg2, _, _⟩ := drop_get hb
        by_cases c : x = t
        · have : t ∈ l := hm.2 ⟨hb, hg.trans c⟩
          simp [hn, h0, h1, h6, h7, h8, encInts, iV, iD, hlt, hb, hg, guardVal, c, Post, finish, this]
        · have : ¬ t ∈ l := fun h => by obtain ⟨_, e⟩ := hm.1 h; exact c (hg.symm.trans e)
          simp [hn, h0, h1, h6, h7, h8, encInts, iV, iD, hlt, hb, hg, guardVal, c]
          refine vcall_of [.l .d] (v30 x) rfl cp30 (by simp [iD] <;> rfl) (by simp <;> rfl) (by simp [hn]) ?_
          simp [hn, h0, h1, h6, h7, h8, encInts, iV, iD, bindRes, c, Post, finish, this, guardVal]
      · have : ¬ t ∈ l := fun h => by obtain ⟨q, e⟩ := hm.1 h; exact hb q
        simp [hn, h0, h1, h6, h7, h8, encInts, iV, iD, hlt, hb, guardVal, Post, finish, this]
end Go.Proofs.Ytfnplmglpbihhaa.Vm
