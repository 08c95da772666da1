/- How the arguments of a law are read. -/
import Derived.Test.YtfnplmglpbihhaaFl
import Derived.Deep.SlicePairs
import Derived.ProofKit
namespace Go.Proofs.Ytfnplmglpbihhaa.Vm
open Go Go.RowKit Go.Deep Go.ChangeShapes Go.WideShapes
set_option linter.unusedVariables false
set_option linter.unusedSimpArgs false

section
variable {H : Type} {enc : TypeId × Value → H} {P : Program} {w : World} {spare : Nat → Bool} {held : Bool}

theorem cell_addr {a : Addr} {u : Value} (h : w.cell? a = some u) : a = ⟨a.block, a.off, none⟩ ∧ a.block < w.heap.size := by
  unfold World.cell? at h
  split at h
  · rename_i c T l hb
    have hlt := (Array.getElem?_eq_some_iff.1 hb).1
    cases hs : a.spot with
    | none => exact ⟨by cases a; simp at hs; subst hs; rfl, hlt⟩
    | some x => rw [hs] at h; simp at h
  · cases h

theorem rep_row {a : Addr} {len cap z : Nat} {xss : List (List D)} (V : Nat → Nat → Value) (hlen : len ≤ cap) (hcap : cap ≤ maxLen) (hl : xss.length = len) (hz0 : 0 < z) (hz : ∀ xs ∈ xss, xs.length = z)
    (h : ∀ i j d, cellAt xss i j = some d → w.cell? (a.add (i * z + j)) = some (V i j) ∧ Rep w (· < w.heap.size) d (V i j)) : Rep w (· < w.heap.size) (.sl xss) (.slice (some a) len cap) := by
  subst hl
  cases xss with
  | nil => exact .nil hcap
  | cons xs xss =>
    have hx := hz xs (by simp)
    cases xs with
    | nil => simp at hx; omega
    | cons d xs =>
      have h0 := (h 0 0 d (by simp [cellAt])).1
      have ha0 : a.add (0 * z + 0) = a := by simp [Addr.add]
      rw [ha0] at h0
      obtain ⟨ha, hlt⟩ := cell_addr h0
      rw [ha]
      refine .sl (z := z) V hlt hlen hcap hz (fun i j d hd => ?_) (fun i j d hd => (h i j d hd).2)
      have := (h i j d hd).1
      have e : a.add (i * z + j) = ⟨a.block, a.off + i * z + j, none⟩ := by
        unfold Addr.add
        split
        · rename_i hz; rw [ha]; simp; omega
        · simp [Nat.add_assoc]
      rw [e] at this
      exact this
end

theorem cellAt_map {α : Type} {l : List α} {f : α → List D} {i j : Nat} {d : D} (h : cellAt (l.map f) i j = some d) : ∃ x, l[i]? = some x ∧ (f x)[j]? = some d := by
  unfold cellAt at h
  rw [List.getElem?_map] at h
  cases hx : l[i]? with
  | none => rw [hx] at h; simp at h
  | some x => rw [hx] at h; exact ⟨x, rfl, by simpa using h⟩

section
variable {H : Type} {enc : TypeId × Value → H} {w : World} {spare : Nat → Bool} {held : Bool}

theorem u3 : Try.prog.underlying 3 = some (.int .i64) := by kernel_rfl
theorem u33 : Try.prog.underlying 33 = some (.slice 3) := by kernel_rfl
theorem u25 : Try.prog.underlying 25 = some (.slice 35) := by kernel_rfl
theorem u22 : Try.prog.underlying 22 = some (.slice 25) := by kernel_rfl

theorem rd_ints {fuel : Nat} {v : Value} {x : DataW H × List MemPlace} (h : DataW.trod enc Try.prog w 0 spare held fuel 33 [v] = some x) : ∃ l : List Int, Rep w (· < w.heap.size) (encInts l) v ∧ l.length ≤ maxLen := by
  rcases open_ints u33 u3 tc3 h with ⟨hcs, _⟩ | ⟨a, len, cap, zs, hcs, _, hl, hm, hz, _, hcell, _⟩
  · cases hcs
    exact ⟨[], .nil (by decide), by simp⟩
  · cases hcs
    have hzl : len ≤ zs.length := by rw [hz]; split <;> omega
    refine ⟨zs.take len, rep_row (z := 1) (fun i _ => .int .i64 (zs.getD i 0)) hl hm (by simp; omega) (by omega) (fun xs hx => ?_) (fun i j d hd => ?_), by simp; omega⟩
    · obtain ⟨n, _, rfl⟩ := List.mem_map.1 hx
      rfl
    · obtain ⟨n, h1, h2⟩ := cellAt_map hd
      cases j with
      | succ j => simp at h2
      | zero =>
        simp at h2
        subst h2
        have hi : i < len := by
          have := (List.getElem?_eq_some_iff.1 h1).1
          simp at this; omega
        have hn : zs.getD i 0 = n := by
          rw [List.getElem?_take_of_lt hi] at h1
          simp [List.getD, h1]
        simp only [Nat.mul_one, Nat.add_zero]
        refine ⟨hcell i (by omega), ?_⟩
        rw [hn]
        exact .v rfl

theorem list_upto {α : Type} {n : Nat} {p : Nat → α → Prop} (h : ∀ i, i < n → ∃ x, p i x) : ∃ l : List α, l.length = n ∧ ∀ i x, l[i]? = some x → p i x := by
  induction n with
  | zero => exact ⟨[], rfl, fun i x hx => by simp at hx⟩
  | succ n ih =>
    obtain ⟨l, h1, h2⟩ := ih fun i hi => h i (by omega)
    obtain ⟨x, hx⟩ := h n (by omega)
    refine ⟨l ++ [x], by simp [h1], fun i y hy => ?_⟩
    by_cases hi : i < l.length
    · rw [List.getElem?_append_left hi] at hy
      exact h2 i y hy
    · rw [List.getElem?_append_right (by omega)] at hy
      have hin : i = n := by
        have := (List.getElem?_eq_some_iff.1 hy).1
        simp at this; omega
      subst hin
      rw [h1, Nat.sub_self] at hy
      simp at hy
      exact hy ▸ hx

theorem rd_posts {fuel : Nat} {v : Value} {x : DataW H × List MemPlace} (h : DataW.trod enc Try.prog w 0 spare held fuel 25 [v] = some x) : ∃ l : List Pst, Rep w (· < w.heap.size) (encPosts l) v ∧ l.length ≤ maxLen := by
  rcases open_slice_pairs u25 Try.underlying35 tc35 rfl rfl tc3 tc33 h with ⟨hcs, _⟩ | ⟨a, len, cap, m, n, V0, V1, D0, D1, P0, P1, hcs, _, hl, hm, hmm, _, hcell⟩
  · cases hcs
    exact ⟨[], .nil (by decide), by simp⟩
  · cases hcs
    have hlm : len ≤ m := by rw [hmm]; split <;> omega
    obtain ⟨l, hll, hl2⟩ := list_upto (α := Pst) (n := len) (p := fun i q => V0 i = .int .i64 q.doc ∧ Rep w (· < w.heap.size) (encInts q.places) (V1 i)) (fun i hi => by
      obtain ⟨_, _, h3, h4⟩ := hcell i (by omega)
      obtain ⟨k, hk, _⟩ := DataW.trod_int u3 h3
      obtain ⟨pl, hp, _⟩ := rd_ints h4
      exact ⟨⟨k, pl⟩, by simpa using hk, hp⟩)
    refine ⟨l, rep_row (z := 2) (fun i j => if j = 0 then V0 i else V1 i) hl hm (by simp [hll]) (by omega) (fun xs hx => ?_) (fun i j d hd => ?_), by omega⟩
    · obtain ⟨q, _, rfl⟩ := List.mem_map.1 hx
      rfl
    · obtain ⟨q, h1, h2⟩ := cellAt_map hd
      have hi : i < len := by
        have := (List.getElem?_eq_some_iff.1 h1).1
        omega
      obtain ⟨k1, k2, _, _⟩ := hcell i (by omega)
      obtain ⟨e1, e2⟩ := hl2 i q h1
      match j, h2 with
      | 0, h2 =>
        simp [encPost] at h2
        subst h2
        refine ⟨by simpa using k1, ?_⟩
        simp only [if_true]
        rw [e1]
        exact .v rfl
      | 1, h2 =>
        simp [encPost] at h2
        subst h2
        exact ⟨by simpa using k2, by simpa using e2⟩
      | j + 2, h2 => simp [encPost] at h2

theorem rd_lists {fuel : Nat} {v : Value} {x : DataW H × List MemPlace} (h : DataW.trod enc Try.prog w 0 spare held fuel 22 [v] = some x) : ∃ l : List (List Pst), Rep w (· < w.heap.size) (encLists l) v ∧ l.length ≤ maxLen ∧ ∀ y ∈ l, y.length ≤ maxLen := by
  rcases open_slice1 u22 tc25 h with ⟨hcs, _⟩ | ⟨a, len, cap, m, n, V, Dd, Pl, hcs, _, hl, hm, hmm, _, hcell⟩
  · cases hcs
    exact ⟨[], .nil (by decide), by simp, by simp⟩
  · cases hcs
    have hlm : len ≤ m := by rw [hmm]; split <;> omega
    obtain ⟨l, hll, hl2⟩ := list_upto (α := List Pst) (n := len) (p := fun i q => Rep w (· < w.heap.size) (encPosts q) (V i) ∧ q.length ≤ maxLen) (fun i hi => rd_posts (hcell i (by omega)).2)
    refine ⟨l, rep_row (z := 1) (fun i _ => V i) hl hm (by simp [hll]) (by omega) (fun xs hx => ?_) (fun i j d hd => ?_), by omega, fun y hy => ?_⟩
    · obtain ⟨q, _, rfl⟩ := List.mem_map.1 hx
      rfl
    · obtain ⟨q, h1, h2⟩ := cellAt_map hd
      have hi : i < len := by
        have := (List.getElem?_eq_some_iff.1 h1).1
        omega
      match j, h2 with
      | 0, h2 =>
        simp at h2
        subst h2
        exact ⟨by simpa using (hcell i (by omega)).1, (hl2 i q h1).1⟩
      | j + 1, h2 => simp at h2
    · obtain ⟨i, hi, rfl⟩ := List.getElem_of_mem hy
      exact (hl2 i _ (List.getElem?_eq_getElem hi)).2

end

/-- A law over what came in: it returns true, and turns nothing. -/
theorem law_of {f : Nat} {ds : List D} {vs : List Value} {w : World} (hV : VFun Try.prog f (ds.map fun d => .l (.d d)) [.l (.d (.v (.bool true)))] []) (hr : ∀ (i : Nat) d, ds[i]? = some d → ∃ v, vs[i]? = some v ∧ Rep w (· < w.heap.size) d v) (hl : vs.length = ds.length) :
    Calls Try.prog f vs.toArray w fun e w' => e = .returned (.bool true) ∧ Below w.heap.size w w' := by
  have hrep : RepL (AVRep Try.prog w (· < w.heap.size)) (ds.map fun d => .l (.d d)) vs [] := by
    clear hV
    induction ds generalizing vs with
    | nil =>
      have : vs = [] := List.eq_nil_of_length_eq_zero (by simpa using hl)
      subst this
      exact .nil
    | cons d ds ih =>
      cases vs with
      | nil => simp at hl
      | cons v vs =>
        obtain ⟨u, hu, h1⟩ := hr 0 d rfl
        simp at hu
        subst hu
        exact RepL.cons (b := []) (bs := []) ⟨h1, rfl⟩ (ih (fun i d hd => by
          obtain ⟨u, q1, q2⟩ := hr (i + 1) d (by simpa using hd)
          exact ⟨u, by simpa using q1, q2⟩) (by simpa using hl))
  refine (hV w (· < w.heap.size) vs [] hrep .nil (by simp) (fun b hb => hb)).mono ?_
  rintro e w' ⟨K', rv, bs1, bs2, rfl, h1, _, _, _, _, _, h2, h3, h4, h5, h6⟩
  obtain ⟨u, rfl, hu⟩ := h1.one_inv
  refine ⟨?_, h2, h3, h4, h5, fun k hk => h6 k hk (by simp)⟩
  obtain ⟨hu, _⟩ := hu
  cases hu
  rfl
end Go.Proofs.Ytfnplmglpbihhaa.Vm
