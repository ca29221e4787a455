/-
  What the reference's 'Values' answers is best, too: so it is what the trie answers.
-/
import Derived.Test.YtoefjhdcipgacaaRefVals
namespace Go.Proofs.Ytoefjhdcipgacaa.Tr

theorem midOf_iff (W : List Int) (s : Nat) (p : List Int) : midOf W s p.length = p ↔ p <+: W.drop s := by
  unfold midOf
  rw [List.drop_take, show s + p.length - s = p.length by omega, List.prefix_iff_eq_take]
  exact eq_comm
def St (l : List Pat) (W out : List Int) (H : Nat → Pat → Prop) : Prop :=
  ∀ j, j < out.length → 0 ≤ out.getD j 0 ∧ (∀ s p, H s p → p.1 <+: W.drop s → s ≤ j + 1 → p.2.getD (j + 1 - s) 0 ≤ out.getD j 0) ∧
    (out.getD j 0 = 0 ∨ ∃ s p, p ∈ l ∧ p.1 <+: W.drop s ∧ s ≤ j + 1 ∧ p.2.getD (j + 1 - s) 0 = out.getD j 0)
theorem St.bump {l : List Pat} {W out : List Int} {H : Nat → Pat → Prop} (h : St l W out H) {p : Pat} (hp : p ∈ l) {s : Nat} (hs : p.1 <+: W.drop s) : St l W (bump out p.2 s) (fun s' p' => H s' p' ∨ (s' = s ∧ p' = p)) := by
  intro j hj
  rw [bump_length] at hj
  obtain ⟨h1, h2, h3⟩ := h j hj
  rw [getD_bump _ _ _ _ h1 hj]
  by_cases hsj : s ≤ j + 1
  · rw [if_pos hsj]
    refine ⟨by omega, ?_, ?_⟩
    · rintro s' p' (hH | ⟨rfl, rfl⟩) hw hs'
      · have := h2 s' p' hH hw hs'; omega
      · exact Int.le_max_right _ _
    · rcases Int.le_total (p.2.getD (j + 1 - s) 0) (out.getD j 0) with hle | hle
      · rw [Int.max_eq_left hle]; exact h3
      · rw [Int.max_eq_right hle]; exact .inr ⟨s, p, hp, hs, hsj, rfl⟩
  · rw [if_neg hsj]
    refine ⟨h1, ?_, h3⟩
    rintro s' p' (hH | ⟨rfl, rfl⟩) hw hs'
    · exact h2 s' p' hH hw hs'
    · exact absurd hs' hsj
theorem St.imp {l : List Pat} {W out : List Int} {H H' : Nat → Pat → Prop} (h : St l W out H) (hH : ∀ s p, H' s p → p.1 <+: W.drop s → H s p) : St l W out H' := by
  intro j hj
  obtain ⟨h1, h2, h3⟩ := h j hj
  exact ⟨h1, fun s p hp hw hs => h2 s p (hH s p hp hw) hw hs, h3⟩
theorem St.from_ {l : List Pat} {W out : List Int} {H : Nat → Pat → Prop} (h : St l W out H) {p : Pat} (hp : p ∈ l) (k : Nat) : St l W (refFrom W p out k) (fun s' p' => H s' p' ∨ (s' < k ∧ p' = p)) := by
  induction k with
  | zero =>
    rw [refFrom_zero]
    refine h.imp ?_
    rintro s p (hs | ⟨hs, _⟩) _
    · exact hs
    · exact absurd hs (Nat.not_lt_zero _)
  | succ k ih =>
    rw [refFrom_succ]
    by_cases hm : midOf W k p.1.length = p.1
    · rw [if_pos hm]
      refine (ih.bump hp ((midOf_iff W k p.1).1 hm)).imp ?_
      rintro s' p' (hs | ⟨hs, rfl⟩) _
      · exact .inl (.inl hs)
      · rcases Nat.lt_or_ge s' k with hlt | hge
        · exact .inl (.inr ⟨hlt, rfl⟩)
        · exact .inr ⟨by omega, rfl⟩
    · rw [if_neg hm]
      refine ih.imp ?_
      rintro s' p' (hs | ⟨hs, rfl⟩) hw
      · exact .inl hs
      · rcases Nat.lt_or_ge s' k with hlt | hge
        · exact .inr ⟨hlt, rfl⟩
        · have : s' = k := by omega
          subst this
          exact absurd ((midOf_iff W s' p'.1).2 hw) hm
theorem St.all {l : List Pat} {W : List Int} (l' : List Pat) : ∀ {out : List Int} {H : Nat → Pat → Prop}, St l W out H → (∀ p ∈ l', p ∈ l) →
    St l W (l'.foldl (fun o p => refFrom W p o (W.length + 1 - p.1.length)) out) (fun s p => H s p ∨ (p ∈ l' ∧ s + p.1.length ≤ W.length)) := by
  induction l' with
  | nil =>
    intro out H h _
    refine h.imp ?_
    rintro s p (hs | ⟨hs, _⟩) _
    · exact hs
    · exact absurd hs (List.not_mem_nil)
  | cons p l' ih =>
    intro out H h hsub
    refine (ih (h.from_ (hsub p (List.mem_cons_self ..)) (W.length + 1 - p.1.length)) (fun q hq => hsub q (List.mem_cons_of_mem _ hq))).imp ?_
    rintro s q (hs | ⟨hq, hs⟩) _
    · exact .inl (.inl hs)
    · rcases List.mem_cons.1 hq with rfl | hq
      · exact .inl (.inr ⟨by omega, rfl⟩)
      · exact .inr ⟨hq, hs⟩
theorem refVals_length (l : List Pat) (word : List Int) : (refVals l word).length = word.length + 1 := by
  unfold refVals; rw [refTo_length, zeros_length]
theorem refVals_best (l : List Pat) (word : List Int) : Best l (46 :: word ++ [46]) (refVals l word) := by
  have h0 : St l (wholeOf word) (zeros word) (fun _ _ => False) := by
    intro j _
    have : (zeros word).getD j 0 = 0 := zeros_getD _ _
    rw [this]
    exact ⟨Int.le_refl _, fun s p h => h.elim, .inl rfl⟩
  have h1 := h0.all l (fun p hp => hp)
  have h2 : refVals l word = l.foldl (fun o p => refFrom (wholeOf word) p o ((wholeOf word).length + 1 - p.1.length)) (zeros word) := by
    unfold refVals refTo; rw [List.take_length]
  rw [← h2] at h1
  intro j hj
  obtain ⟨k1, k2, k3⟩ := h1 j hj
  refine ⟨k1, fun s p hp hw hs => k2 s p (.inr ⟨hp, ?_⟩) hw hs, k3⟩
  rw [refVals_length] at hj
  have h4 := hw.length_le
  rw [List.length_drop] at h4
  have h5 : (46 :: word ++ [46] : List Int).length = word.length + 2 := by simp
  rw [whole_length]
  omega
/-- THE LAW TrieValues, in plain words. -/
theorem values_ref (l : List Pat) (hv : ∀ p ∈ l, NN p.2) (word : List Int) : values (make l) word = refVals l word :=
  (values_best l hv word).unique (refVals_best l word) (fun _ => Iff.rfl) (by rw [values_length, refVals_length])
end Go.Proofs.Ytoefjhdcipgacaa.Tr
