/- The plain laws: what the program finds is what the document finds. -/
import Derived.Test.YtfnplmglpbihhaaFj
namespace Go.Proofs.Ytfnplmglpbihhaa.Vm
open Go Go.RowKit
set_option linter.unusedSimpArgs false

theorem upTo_iff : ∀ (l : List Int) (last most : Int), upTo last most l = true ↔ l.Pairwise (· < ·) ∧ ∀ a ∈ l, last < a ∧ a ≤ most
  | [], last, most => by simp [upTo]
  | n :: l, last, most => by
    constructor
    · exact upTo_spec _ _ _
    · rintro ⟨h1, h2⟩
      have hn := h2 n (by simp)
      unfold upTo
      rw [if_neg (by omega), upTo_iff l n most]
      obtain ⟨h3, h4⟩ := List.pairwise_cons.1 h1
      exact ⟨h4, fun a ha => ⟨h3 a ha, (h2 a (by simp [ha])).2⟩⟩

structure WF (l : List Pst) : Prop where
  some : ∀ p ∈ l, p.places ≠ []
  rise : ∀ p ∈ l, p.places.Pairwise (· < ·)
  fit : ∀ p ∈ l, ∀ a ∈ p.places, -1 < a ∧ a ≤ 2147483647
  docs : l.Pairwise (fun p q => p.doc < q.doc)
  rows : ∀ p ∈ l, -1 < p.doc ∧ p.doc ≤ 4095

theorem formed_iff (l : List Pst) : formed l = true ↔ WF l := by
  simp only [formed, Bool.and_eq_true, List.all_eq_true, okPlaces, decide_eq_true_eq, upTo_iff]
  constructor
  · rintro ⟨h1, h2, h3⟩
    exact ⟨fun p hp => (h1 p hp).1, fun p hp => (h1 p hp).2.1, fun p hp => (h1 p hp).2.2, List.pairwise_map.1 h2, fun p hp => h3 _ (List.mem_map_of_mem hp)⟩
  · intro h
    refine ⟨fun p hp => ⟨h.some p hp, h.rise p hp, h.fit p hp⟩, List.pairwise_map.2 h.docs, fun a ha => ?_⟩
    obtain ⟨p, hp, rfl⟩ := List.mem_map.1 ha
    exact h.rows p hp

def stepF (f : Int → Int → Bool) : List Pst → List Pst
  | [] => []
  | p :: l => (if p.places.filter (f p.doc) = [] then [] else [⟨p.doc, p.places.filter (f p.doc)⟩]) ++ stepF f l

theorem stepF_cons (f : Int → Int → Bool) (p : Pst) (l : List Pst) : stepF f (p :: l) = (if p.places.filter (f p.doc) = [] then [] else [⟨p.doc, p.places.filter (f p.doc)⟩]) ++ stepF f l := rfl
theorem phrase_cons (l : List Pst) (ls : List (List Pst)) : phrase (l :: ls) = if (l :: ls).all formed then (phr 0 l ls, 0) else ([], 1) := rfl
theorem refPhrase_cons (l : List Pst) (ls : List (List Pst)) : refPhrase (l :: ls) = if (l :: ls).all formed then (refGo ls l, 0) else ([], 1) := rfl

theorem stepF_mem (f : Int → Int → Bool) : ∀ (l : List Pst) (x : Pst), x ∈ stepF f l → ∃ p ∈ l, x = ⟨p.doc, p.places.filter (f p.doc)⟩ ∧ x.places ≠ []
  | [], x, h => by simp [stepF] at h
  | p :: l, x, h => by
    unfold stepF at h
    rcases List.mem_append.1 h with h | h
    · split at h
      · cases h
      · rename_i hne
        simp only [List.mem_singleton] at h
        exact ⟨p, by simp, h, by rw [h]; exact hne⟩
    · obtain ⟨q, h1, h2⟩ := stepF_mem f l x h
      exact ⟨q, by simp [h1], h2⟩

theorem stepF_wf {f : Int → Int → Bool} : ∀ {l : List Pst}, WF l → WF (stepF f l) := by
  intro l h
  have sub : ∀ x ∈ stepF f l, ∃ p ∈ l, x.doc = p.doc ∧ x.places.Sublist p.places ∧ x.places ≠ [] := fun x hx => by
    obtain ⟨p, h1, rfl, h3⟩ := stepF_mem f l x hx
    exact ⟨p, h1, rfl, List.filter_sublist, h3⟩
  refine ⟨fun x hx => (sub x hx).elim fun p hp => hp.2.2.2, fun x hx => ?_, fun x hx a ha => ?_, ?_, fun x hx => ?_⟩
  · obtain ⟨p, h1, h2, h3, h4⟩ := sub x hx
    exact (h.rise p h1).sublist h3
  · obtain ⟨p, h1, h2, h3, h4⟩ := sub x hx
    exact h.fit p h1 a (h3.subset ha)
  · have : ∀ l : List Pst, l.Pairwise (fun p q => p.doc < q.doc) → (stepF f l).Pairwise (fun p q => p.doc < q.doc) := by
      intro l
      induction l with
      | nil => intro _; simp [stepF]
      | cons p l ih =>
        intro hp
        obtain ⟨h1, h2⟩ := List.pairwise_cons.1 hp
        unfold stepF
        split
        · simpa using ih h2
        · refine List.pairwise_cons.2 ⟨fun x hx => ?_, ih h2⟩
          obtain ⟨q, hq, rfl, _⟩ := stepF_mem f l x hx
          exact h1 q hq
    exact this l h.docs
  · obtain ⟨p, h1, h2, h3, h4⟩ := sub x hx
    rw [h2]
    exact h.rows p h1

theorem stepF_congr {f g : Int → Int → Bool} : ∀ {l : List Pst}, (∀ p ∈ l, ∀ a, f p.doc a = g p.doc a) → stepF f l = stepF g l
  | [], _ => rfl
  | p :: l, h => by
    have e : p.places.filter (f p.doc) = p.places.filter (g p.doc) := List.filter_congr fun a _ => h p (by simp) a
    unfold stepF
    rw [e, stepF_congr fun q hq => h q (by simp [hq])]

theorem stepF_stepF {f g : Int → Int → Bool} : ∀ (l : List Pst), stepF f (stepF g l) = stepF (fun d a => g d a && f d a) l
  | [] => rfl
  | p :: l => by
    have e : (p.places.filter (g p.doc)).filter (f p.doc) = p.places.filter (fun a => g p.doc a && f p.doc a) := by
      rw [List.filter_filter]
      exact List.filter_congr fun a _ => Bool.and_comm _ _
    have ih := stepF_stepF (f := f) (g := g) l
    rw [stepF_cons g, stepF_cons (fun d a => g d a && f d a)]
    by_cases h : p.places.filter (g p.doc) = []
    · have h' : p.places.filter (fun a => g p.doc a && f p.doc a) = [] := by rw [← e, h]; rfl
      simp only [h, h', if_true, List.nil_append, ih]
    · simp only [h, if_false, List.singleton_append, stepF_cons, e, ih]

theorem stepF_true : ∀ {l : List Pst}, (∀ p ∈ l, p.places ≠ []) → stepF (fun _ _ => true) l = l
  | [], _ => rfl
  | p :: l, h => by
    have ih : stepF (fun _ _ => true) l = l := stepF_true fun q hq => h q (List.mem_cons_of_mem _ hq)
    have hp := h p (List.mem_cons_self ..)
    rw [stepF_cons, List.filter_eq_self.2 (fun _ _ => rfl), if_neg hp, ih]
    rfl

theorem at_drop {d e : Int} (hde : e ≤ d) : ∀ (l : List Pst), atGo d (l.dropWhile fun q => decide (q.doc < e)) = atGo d l
  | [] => rfl
  | q :: l => by
    by_cases h : q.doc < e
    · rw [List.dropWhile_cons_of_pos (by simpa using h), at_drop hde l]
      conv => rhs; unfold atGo
      rw [if_neg (by omega)]
    · rw [List.dropWhile_cons_of_neg (by simpa using h)]

theorem at_above {d : Int} : ∀ {l : List Pst}, (∀ q ∈ l, d < q.doc) → atGo d l = []
  | [], _ => rfl
  | q :: l, h => by
    unfold atGo
    have := h q (by simp)
    rw [if_neg (by omega)]
    exact at_above fun r hr => h r (by simp [hr])

theorem behind_eq (by_ : Nat) : ∀ (l other : List Pst), l.Pairwise (fun p q => p.doc < q.doc) → other.Pairwise (fun p q => p.doc < q.doc) →
    behindGo by_ other l = stepF (fun d a => decide (a + by_ ∈ atGo d other)) l
  | [], other, _, _ => by simp [behindGo, stepF]
  | p :: l, other, hl, ho => by
    obtain ⟨h1, h2⟩ := List.pairwise_cons.1 hl
    have hsub : (other.dropWhile fun q => decide (q.doc < p.doc)).Sublist other := List.dropWhile_sublist _
    have ho' := ho.sublist hsub
    have cong : stepF (fun d a => decide (a + by_ ∈ atGo d other)) (p :: l) = stepF (fun d a => decide (a + by_ ∈ atGo d (other.dropWhile fun q => decide (q.doc < p.doc)))) (p :: l) := by
      refine stepF_congr fun x hx a => ?_
      have hpx : p.doc ≤ x.doc := by
        rcases List.mem_cons.1 hx with rfl | hx
        · omega
        · have := h1 x hx; omega
      rw [at_drop hpx]
    rw [cong]
    have hhead : ∀ q r, (other.dropWhile fun q => decide (q.doc < p.doc)) = q :: r → p.doc ≤ q.doc := by
      intro q r hqr
      have := List.head?_dropWhile_not (fun q : Pst => decide (q.doc < p.doc)) other
      rw [hqr] at this
      simp at this
      omega
    unfold behindGo
    revert ho' hhead
    cases hd : other.dropWhile (fun q => decide (q.doc < p.doc)) with
    | nil =>
      intro _ _
      simp only []
      have : ∀ l : List Pst, stepF (fun d a => decide (a + (by_ : Int) ∈ atGo d [])) l = [] := by
        intro l
        induction l with
        | nil => rfl
        | cons x l ih => unfold stepF; rw [ih]; simp [atGo]
      rw [this]
    | cons q r =>
      intro ho' hhead
      have hq := hhead q r rfl
      obtain ⟨k1, k2⟩ := List.pairwise_cons.1 ho'
      have ih := behind_eq by_ l (q :: r) h2 ho'
      simp only []
      by_cases hlt : p.doc < q.doc
      · rw [if_pos hlt, ih]
        have : atGo p.doc (q :: r) = [] := at_above fun x hx => by
          rcases List.mem_cons.1 hx with rfl | hx
          · exact hlt
          · have := k1 x hx; omega
        conv => rhs; unfold stepF
        simp [this]
      · have heq : q.doc = p.doc := by omega
        have : atGo p.doc (q :: r) = q.places := by unfold atGo; rw [if_pos heq]
        rw [if_neg hlt, ih]
        conv => rhs; unfold stepF
        simp only [this, keepAt]
        rfl

theorem ref_eq (ls : List (List Pst)) : ∀ l, refGo ls l = stepF (fun d a => allBehind d a 1 ls) l
  | [] => rfl
  | p :: l => by unfold refGo stepF; rw [ref_eq ls l]; rfl

theorem phr_eq : ∀ (ls : List (List Pst)) (k : Nat) (found : List Pst), WF found → (∀ l ∈ ls, WF l) → phr k found ls = stepF (fun d a => allBehind d a (k + 1) ls) found
  | [], k, found, hf, _ => by
    simp only [phr, allBehind]
    exact (stepF_true hf.some).symm
  | l :: ls, k, found, hf, hl => by
    have hb := behind_eq (k + 1) found l hf.docs (hl l (by simp)).docs
    unfold phr
    rw [hb, phr_eq ls (k + 1) _ (stepF_wf hf) (fun l h => hl l (by simp [h])), stepF_stepF]
    exact stepF_congr fun p _ a => rfl

theorem phrase_eq (ls : List (List Pst)) : phrase ls = refPhrase ls := by
  cases ls with
  | nil => rfl
  | cons l ls =>
    rw [phrase_cons, refPhrase_cons]
    by_cases h : (l :: ls).all formed = true
    · rw [if_pos h, if_pos h]
      have hw : ∀ x ∈ l :: ls, WF x := fun x hx => (formed_iff x).1 (List.all_eq_true.1 h x hx)
      rw [phr_eq ls 0 l (hw l (by simp)) (fun x hx => hw x (by simp [hx])), ref_eq]
    · rw [if_neg h, if_neg h]

theorem phrase_wf (ls : List (List Pst)) : WF (phrase ls).1 := by
  have nil : WF [] := ⟨by simp, by simp, by simp, .nil, by simp⟩
  cases ls with
  | nil => exact nil
  | cons l ls =>
    rw [phrase_cons]
    by_cases h : (l :: ls).all formed = true
    · rw [if_pos h]
      have hw : ∀ x ∈ l :: ls, WF x := fun x hx => (formed_iff x).1 (List.all_eq_true.1 h x hx)
      show WF (phr 0 l ls)
      rw [phr_eq ls 0 l (hw l (by simp)) (fun x hx => hw x (by simp [hx]))]
      exact stepF_wf (hw l (by simp))
    · rw [if_neg h]
      exact nil

theorem phrase_formed (ls : List (List Pst)) : formed (phrase ls).1 = true := (formed_iff _).2 (phrase_wf ls)

theorem stepF_len (f : Int → Int → Bool) : ∀ l : List Pst, (stepF f l).length ≤ l.length
  | [] => by simp [stepF]
  | p :: l => by
    have := stepF_len f l
    unfold stepF
    rw [List.length_append]
    split <;> simp <;> omega

theorem phrase_small {ls : List (List Pst)} (hf : Fits ls) : (phrase ls).1.length ≤ 1000000 ∧ ∀ p ∈ (phrase ls).1, p.places.length ≤ 1000000 := by
  rw [phrase_eq]
  cases ls with
  | nil => simp [refPhrase]
  | cons l ls =>
    rw [refPhrase_cons]
    have hl := hf.2 l (by simp)
    by_cases h : (l :: ls).all formed = true
    · rw [if_pos h]
      show (refGo ls l).length ≤ 1000000 ∧ _
      rw [ref_eq]
      refine ⟨Nat.le_trans (stepF_len _ l) hl.1, fun p hp => ?_⟩
      obtain ⟨q, hq, rfl, _⟩ := stepF_mem _ l p hp
      exact Nat.le_trans (List.length_filter_le _ _) (hl.2 q hq)
    · rw [if_neg h]
      simp
end Go.Proofs.Ytfnplmglpbihhaa.Vm
