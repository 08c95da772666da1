/- JoinLonger: whatever lists of posts, and posts, are handed in, the law returns true and turns nothing that was there. -/
import Derived.Test.YtfnplmglpbihhaaRows
import Derived.Test.YtfnplmglpbihhaaChecked
import Derived.Test.YtfnplmglpbihhaaFr
import Derived.Test.YtfnplmglpbihhaaFm
import Derived.WalkKit
import Derived.ProofKit
import Derived.OpenShut
import Derived.ChangeOld
import Derived.Below
import Derived.SizedLaws
namespace Go.Proofs.Ytfnplmglpbihhaa.joinLonger
open Go Go.ChangeShapes Go.WideShapes Go.ChangeAt Go.RowKit
set_option linter.unusedVariables false
set_option linter.unusedSimpArgs false
theorem own : ownKnob Try.prog.godebug = none := by kernel_rfl
theorem laidOut : laidOutB Try.prog = true := by kernel_rfl
set_option maxRecDepth 100000 in
theorem lifted (os : Os) (started : os.Started) (H : Type) (enc : TypeId × Value → H) :
    ReturnsInHanded {} Try.checked os 4 .any (Rows.joinLongerSpec.pre6 enc Try.prog Try.f4 Rows.joinLongerRow.domain false) (Rows.joinLongerSpec.post enc Try.prog Try.f4 false true false false) := by
  refine returnsInHanded_of_change_sized (C := Try.checked) own started (by kernel_rfl) Try.func4
    (ChangeSpec.witness6 (enc := enc) (C := Try.checked) false ⟨#[], #[.slice none 0 0, .slice none 0 0], []⟩ 8 (by kernel_rfl) (by kernel_rfl) (by kernel_rfl) (by kernel_rfl)) ?_
  intro W base args ds gs before hval0 hW hcnd hsz0 _
  have hsz : (DataW.weightsEach Try.prog (Try.f4.params.toList ++ Rows.joinLongerSpec.plain.varTypes Try.prog) (ds ++ gs)).all (· ≤ reachBytes) = true := hsz0
  have hval : ∀ (j : Nat) t v, Try.f4.params[j]? = some t → args[j]? = some v → Value.okWide Try.prog W .any base t v := hval0
  have hW' := hW
  obtain ⟨p, q, hA0, hV, rfl, hfz, hnd⟩ := hW
  have hA : DataW.TrodAll enc Try.prog W 0 (fun _ => true) true Try.f4.params.toList args.toList ds p := hA0
  rw [Try.params4] at hA hval hsz
  obtain ⟨v0, vs0, d0, ds0, p0, q0, hargs, rfl, rfl, h0, r0⟩ := trodAll_cons hA
  obtain ⟨v1, vs1, d1, ds1, p1, q1, rfl, rfl, rfl, h1, r1⟩ := trodAll_cons r0
  obtain ⟨rfl, rfl, rfl⟩ := trodAll_nil r1
  obtain rfl : args = #[v0, v1] := by cases args; simp_all
  obtain ⟨rfl, rfl⟩ := trodVars_none hV
  obtain ⟨a0, len0, cap0, rfl⟩ := okWide_slice Try.underlying22 (hval 0 22 v0 rfl rfl)
  obtain ⟨a1, len1, cap1, rfl⟩ := okWide_slice Try.underlying25 (hval 1 25 v1 rfl rfl)
  have k0 := h0
  have k1 := h1
  have lt0 : ∀ x ∈ p0, x.block < W.heap.size := by
    obtain ⟨m, hm⟩ := k0
    exact DataW.trod_lt m _ _ _ hm
  have lt1 : ∀ x ∈ p1, x.block < W.heap.size := by
    obtain ⟨m, hm⟩ := k1
    exact DataW.trod_lt m _ _ _ hm
  obtain ⟨l, w0, hl1, hl2⟩ : ∃ l : List (List Vm.Pst), Vm.Rep W (· < W.heap.size) (Vm.encLists l) (.slice a0 len0 cap0) ∧ l.length ≤ maxLen ∧ ∀ y ∈ l, y.length ≤ maxLen := by
    obtain ⟨fuel, hf⟩ := h0
    exact Vm.rd_lists hf
  obtain ⟨more, w1, hm1⟩ : ∃ l : List Vm.Pst, Vm.Rep W (· < W.heap.size) (Vm.encPosts l) (.slice a1 len1 cap1) ∧ l.length ≤ maxLen := by
    obtain ⟨fuel, hf⟩ := h1
    exact Vm.rd_posts hf
  have y0 : l.length * 24 ≤ 140737488351232 := by
    obtain ⟨A, c, hv, _, _⟩ := w0.slice
    cases hv
    obtain ⟨fuel, hf⟩ := k0
    rcases Go.Deep.open_slice1 Vm.u22 Vm.tc25 hf with ⟨hcs, _⟩ | ⟨a, len, cap, m, n, V, Dd, Pl, hcs, _, _, _, _, hx, _⟩
    · simp [Value.cells] at hcs
      rw [hcs.2.1]
      simp
    · simp [Value.cells] at hcs
      have hd : d0 = .slice ((List.range len).map Dd) ((List.range (m - len)).map fun j => Dd (len + j)) := congrArg Prod.fst hx
      have z := sized_slice hsz (j := 0) (t := 22) rfl (by rw [hd]; rfl) Vm.u22
      rw [Vm.tb25] at z
      have hr : reachBytes = 140737488351232 := by decide
      simp at z hcs
      rw [hr] at z
      have hle : l.length = len := by have := hcs.2.1; simpa using this
      rw [hle]
      exact Nat.le_trans (Nat.mul_le_mul_right 24 (Nat.le_add_right len _)) z
  clear hA0 hval0 hsz0 hsz
  refine (Vm.law_of (ds := [Vm.encLists l, Vm.encPosts more]) (vs := [.slice a0 len0 cap0, .slice a1 len1 cap1]) (Vm.v4 l more y0 hl2 hm1) (fun i d hd => ?_) rfl).mono fun e W' ⟨he, bel⟩ => ?_
  · match i, hd with
    | 0, hd => simp at hd; subst hd; exact ⟨_, rfl, w0⟩
    | 1, hd => simp at hd; subst hd; exact ⟨_, rfl, w1⟩
    | i + 2, hd => simp at hd
  subst he
  exact ⟨_, rfl, _, _, _, [], _, [], hW', trodAll_mk1 (shut_bool Try.underlying4 _), (trodAll_cons_mk (Below.trod laidOut (by kernel_rfl) (of_decide_eq_true (by kernel_rfl)) k0 bel lt0) (trodAll_cons_mk (Below.trod laidOut (by kernel_rfl) (of_decide_eq_true (by kernel_rfl)) k1 bel lt1) trodAll_mk0)), rfl, bel.frame _, fun h => by cases h⟩
theorem over : Rows.joinLongerRow.holds Try.pinned (OpenSpec.ofChange Rows.joinLongerSpec) :=
  OpenClaim.holds_of_wide 4 Try.f4 rfl rfl rfl rfl rfl rfl rfl ⟨rfl, rfl, rfl, rfl, rfl⟩ rfl rfl rfl rfl rfl (by kernel_rfl) Try.func4 (by kernel_rfl)
    (of_decide_eq_true (by kernel_rfl)) (by unfold Func.isWrapper; first | (rw [if_pos (by decide +kernel)]; kernel_rfl) | (rw [if_neg (by decide +kernel)]; exact ⟨rfl, rfl⟩))
    (fun os started H enc _ => lifted os started H enc)
theorem proved : Rows.JoinLongerSaid := over
#print axioms proved
end Go.Proofs.Ytfnplmglpbihhaa.joinLonger
namespace Go.Proofs.Ytfnplmglpbihhaa
/-- The row, under a short name, for the claim. -/
theorem joinLonger_holds : Rows.JoinLongerSaid := joinLonger.proved
end Go.Proofs.Ytfnplmglpbihhaa
