/-
  Part 20 of what the law HyphApart rests on: contracts of the functions that it calls, and plain laws of what they compute.
-/
import Derived.Test.YtoefjhdcipgacaaHA6
import Derived.Test.YtoefjhdcipgacaaHA7
import Derived.Test.YtoefjhdcipgacaaHA16
import Derived.Test.YtoefjhdcipgacaaHA18
section
namespace Go.Proofs.Ytoefjhdcipgacaa.Dec
open Go.RowKit Go.Proofs.YtoefjhdcipgacaaW.PrintWords Go.Proofs.YtoefjhdcipgacaaW.PrintLast Go.Proofs.YtoefjhdcipgacaaW.PrintMore
open Go.Proofs.Ytoefjhdcipgacaa.PA
def decAll (l : List Int) : Nat → Int → List S66
  | 0, _ => []
  | f + 1, i => if i < (l.length : Int) then ⟨(dec l i).1, i, (dec l i).2⟩ :: decAll l f (i + (dec l i).2) else []
theorem all_l0 (k : Nat) (x0 : List Int) (x3 : List S66) (x4 : Int) : scal_All.l0 (k + 1) x0 x3 x4 = if x4 < (x0.length : Int) then ((scal_One.f k x0 x4).bind fun b => (if x3.length < 5864062014805 then (scal_All.l0 k x0 (x3 ++ [(⟨b.1, b.2.1, b.2.2⟩ : S66)]) (wrap64 (x4 + b.2.2))) else (none))) else (some x3) := rfl
theorem all_run {l : List Int} (hl : IsBytes l) (hs : l.length ≤ 100000) (f : Nat) : ∀ (i : Int) (xs : List S66) (k : Nat), 0 ≤ i → (l.length : Int) - i ≤ f → (xs.length : Int) ≤ i → f + 9 ≤ k → scal_All.l0 k l xs i = some (xs ++ decAll l f i) := by
  induction f with
  | zero =>
    intro i xs k h0 hf hx hk
    obtain ⟨k, rfl⟩ : ∃ k', k = k' + 1 := ⟨k - 1, by omega⟩
    rw [all_l0, if_neg (show ¬ i < (l.length : Int) by omega), decAll, List.append_nil]
  | succ f ih =>
    intro i xs k h0 hf hx hk
    obtain ⟨k, rfl⟩ : ∃ k', k = k' + 8 + 1 := ⟨k - 9, by omega⟩
    rw [all_l0, decAll]
    by_cases h : i < (l.length : Int)
    · have hd := dec_len l i
      rw [if_pos h, if_pos h, one_eq hl i h0 h hs k, Option.bind_some, if_pos (by omega)]
      dsimp only
      rw [w64 _ ⟨by omega, by omega⟩]
      rw [ih (i + (dec l i).2) _ (k + 8) (by omega) (by omega) (by rw [List.length_append]; simp only [List.length_cons, List.length_nil]; omega) (by omega)]
      rw [List.append_assoc]
      rfl
    · rw [if_neg h, if_neg h, List.append_nil]
theorem all_eq {l : List Int} (hl : IsBytes l) (hs : l.length ≤ 100000) (k : Nat) (hk : l.length + 9 ≤ k) : scal_All.f k l = some (decAll l l.length 0) := by
  have := all_run hl hs l.length 0 [] k (by omega) (by omega) (by simp) hk
  rwa [List.nil_append] at this
theorem decAll_len (l : List Int) (f : Nat) : ∀ i, (decAll l f i).length ≤ f := by
  induction f with
  | zero => intro i; exact Nat.le_refl _
  | succ f ih =>
    intro i
    unfold decAll
    split
    · rw [List.length_cons]; have := ih (i + (dec l i).2); omega
    · exact Nat.zero_le _
theorem decAll_in {l : List Int} (hl : IsBytes l) (f : Nat) : ∀ i, ∀ s ∈ decAll l f i, 0 ≤ s.f0 ∧ s.f0 < 16777216 := by
  induction f with
  | zero => intro i s hs; cases hs
  | succ f ih =>
    intro i s hs
    unfold decAll at hs
    split at hs
    · rcases List.mem_cons.1 hs with rfl | hs
      · exact dec_in hl i
      · exact ih _ s hs
    · cases hs
def oneM (told : Bool) (n : Nat) : List Int → Bool → Int → List Int → List Int → List Int × List Int × Bool
  | [], _, m, xs, vs => (xs, vs, decide (m > 0) && decide ((xs.length : Int) ≤ 24))
  | c :: rest, set, m, xs, vs =>
    if c = 65533 then (xs, vs, false)
    else if c = 45 ∨ (48 ≤ c ∧ c ≤ 57) then
      if set = true ∨ told ≠ (c == 45) ∨ (told = true ∧ (xs.length = 0 ∨ rest = [])) then (xs, vs, false)
      else oneM told n rest true m xs (vs.set xs.length (if told then 1 else c - 48))
    else if c = 46 then
      if told = true ∨ (rest.length + 1 ≠ n ∧ rest ≠ []) then (xs, vs, false)
      else oneM told n rest false m (xs ++ [46]) (vs ++ [0])
    else oneM told n rest false (m + 1) (xs ++ [c]) (vs ++ [0])
theorem oneM_good (told : Bool) (n : Nat) (l : List Int) : ∀ set m xs vs r1 r2, oneM told n l set m xs vs = (r1, r2, true) → vs.length = xs.length + 1 → (∀ x ∈ vs, 0 ≤ x) →
    r1.length ≤ 24 ∧ r2.length = r1.length + 1 ∧ (∀ x ∈ r2, 0 ≤ x) ∧ ∀ r ∈ r1, r ∈ xs ∨ r ∈ l := by
  induction l with
  | nil =>
    intro set m xs vs r1 r2 h hl hv
    simp only [oneM, Prod.mk.injEq, Bool.and_eq_true, decide_eq_true_eq] at h
    obtain ⟨rfl, rfl, _, h⟩ := h
    exact ⟨by omega, hl, hv, fun r hr => .inl hr⟩
  | cons c l ih =>
    intro set m xs vs r1 r2 h hl hv
    have key : ∀ set m xs' vs', oneM told n l set m xs' vs' = (r1, r2, true) → vs'.length = xs'.length + 1 → (∀ x ∈ vs', 0 ≤ x) → (∀ r ∈ xs', r ∈ xs ∨ r = c) → r1.length ≤ 24 ∧ r2.length = r1.length + 1 ∧ (∀ x ∈ r2, 0 ≤ x) ∧ ∀ r ∈ r1, r ∈ xs ∨ r ∈ c :: l := by
      intro set m xs' vs' h1 h2 h3 h4
      obtain ⟨a1, a2, a3, a4⟩ := ih set m xs' vs' r1 r2 h1 h2 h3
      refine ⟨a1, a2, a3, fun r hr => ?_⟩
      rcases a4 r hr with h | h
      · rcases h4 r h with h | rfl
        · exact .inl h
        · exact .inr (List.mem_cons_self ..)
      · exact .inr (List.mem_cons_of_mem _ h)
    have hv0 : ∀ x ∈ vs ++ [0], 0 ≤ x := by
      intro x hx
      rcases List.mem_append.1 hx with hx | hx
      · exact hv x hx
      · rw [List.mem_singleton.1 hx]; exact Int.le_refl _
    unfold oneM at h
    split at h
    · simp at h
    · split at h
      · rename_i hc
        split at h
        · simp at h
        · rename_i hn
          refine key _ _ _ _ h (by rw [List.length_set]; exact hl) (fun x hx => ?_) (fun r hr => .inl hr)
          rcases List.mem_or_eq_of_mem_set hx with hx | rfl
          · exact hv x hx
          · split
            · decide
            · rename_i ht
              rcases hc with rfl | hc
              · exfalso
                apply hn
                right; left
                simp [ht]
              · omega
      · split at h
        · split at h
          · simp at h
          · rename_i hc _
            refine key _ _ _ _ h (by simp [hl]) hv0 (fun r hr => ?_)
            rcases List.mem_append.1 hr with hr | hr
            · exact .inl hr
            · right; rw [List.mem_singleton.1 hr, hc]
        · refine key _ _ _ _ h (by simp [hl]) hv0 (fun r hr => ?_)
          rcases List.mem_append.1 hr with hr | hr
          · exact .inl hr
          · right; rw [List.mem_singleton.1 hr]
theorem drop_step {L : List S66} {i : Nat} {c : Int} {rest : List Int} (h : (L.drop i).map S66.f0 = c :: rest) : i < L.length ∧ (rd_T66 L (i : Int)).f0 = c ∧ (L.drop (i + 1)).map S66.f0 = rest := by
  have hi : i < L.length := by
    rcases Nat.lt_or_ge i L.length with h1 | h1
    · exact h1
    · rw [List.drop_eq_nil_of_le h1] at h; cases h
  rw [List.drop_eq_getElem_cons hi, List.map_cons] at h
  injection h with h1 h2
  refine ⟨hi, ?_, h2⟩
  rw [← h1]
  simp [rd_T66, List.getD_eq_getElem?_getD, List.getElem?_eq_getElem hi]
theorem one_run (told : Bool) (L : List S66) (hs : L.length ≤ 100000) (rest : List Int) : ∀ (set : Bool) (m : Int) (xs vs : List Int) (i k : Nat), (L.drop i).map S66.f0 = rest → i + rest.length = L.length → vs.length = xs.length + 1 → xs.length ≤ i → 0 ≤ m → m ≤ i → 3 * rest.length + 1 ≤ k → (∀ r ∈ rest, 0 ≤ r ∧ r < 16777216) →
    pats_one.l0 k L told set m L (L.length : Int) (i : Int) xs vs = some (oneM told L.length rest set m xs vs) := by
  induction rest with
  | nil =>
    intro set m xs vs i k hd hn hv hx hm0 hm1 hk hr
    obtain ⟨k, rfl⟩ : ∃ k', k = k' + 1 := ⟨k - 1, by omega⟩
    rw [pats_one.l0.eq_2, if_neg (by simp only [List.length_nil] at hn; omega), oneM]
    by_cases h : m > 0
    · rw [if_pos h, decide_eq_true h, Bool.true_and]
    · rw [if_neg h, decide_eq_false h, Bool.false_and]
  | cons c rest ih =>
    intro set m xs vs i k hd hn hv hx hm0 hm1 hk hr
    obtain ⟨hi, hc, hd'⟩ := drop_step hd
    rw [List.length_cons] at hn hk
    obtain ⟨k, rfl⟩ : ∃ k', k = k' + 1 + 1 + 1 := ⟨k - 3, by omega⟩
    have hcr := hr c (List.mem_cons_self ..)
    have hr' : ∀ r ∈ rest, 0 ≤ r ∧ r < 16777216 := fun r h => hr r (List.mem_cons_of_mem _ h)
    have hrest : (rest = []) ↔ ((i : Int) = (L.length : Int) - 1) := by
      rw [← List.length_eq_zero_iff]; omega
    have hfirst : rest.length + 1 = L.length ↔ (i : Int) = 0 := by omega
    have w1 : wrap64 ((i : Int) + 1) = ((i + 1 : Nat) : Int) := by rw [w64 _ ⟨by omega, by omega⟩]; rfl
    have wn : wrap64 ((L.length : Int) - 1) = (L.length : Int) - 1 := w64 _ ⟨by omega, by omega⟩
    have wm : wrap64 (m + 1) = m + 1 := w64 _ ⟨by omega, by omega⟩
    have goL : ∀ set' m' xs' vs', vs'.length = xs'.length + 1 → xs'.length ≤ i + 1 → 0 ≤ m' → m' ≤ ((i + 1 : Nat) : Int) → ∀ k', k ≤ k' → pats_one.l0 k' L told set' m' L (L.length : Int) ((i + 1 : Nat) : Int) xs' vs' = some (oneM told L.length rest set' m' xs' vs') :=
      fun set' m' xs' vs' h1 h2 h3 h4 k' hk' => ih set' m' xs' vs' (i + 1) k' hd' (by omega) h1 h2 h3 h4 (by omega) hr'
    rw [pats_one.l0.eq_2, if_pos (by omega), if_pos (by omega), if_pos (by omega), hc, oneM]
    by_cases c1 : c = 65533
    · rw [if_pos c1, if_pos c1]
    rw [if_neg c1, if_neg c1]
    have bad : ∀ k', pats_one.j2 (k' + 1) L told m (xs.length : Int) L (L.length : Int) (i : Int) true xs vs c ((rd_T66 L (i : Int)).f1) ((rd_T66 L (i : Int)).f2) = some (xs, vs, false) := fun k' => by rw [pats_one.j2.eq_2, if_pos rfl]
    have good : ∀ k', k ≤ k' → (told = true → True) → (told = false → 48 ≤ c ∧ c ≤ 57) → pats_one.j2 (k' + 1) L told m (xs.length : Int) L (L.length : Int) (i : Int) false xs vs c ((rd_T66 L (i : Int)).f1) ((rd_T66 L (i : Int)).f2) = some (oneM told L.length rest true m xs (vs.set xs.length (if told then 1 else c - 48))) := by
      intro k' hk' _ ht
      rw [pats_one.j2.eq_2, if_neg (by decide), if_pos (by omega), if_pos (by omega), Option.bind_some, w1]
      cases told with
      | true =>
        rw [if_pos rfl, if_pos rfl]
        exact goL _ _ _ _ (by rw [List.length_set]; exact hv) (by omega) hm0 (by omega) _ (by omega)
      | false =>
        have h := ht rfl
        rw [if_neg (by decide), if_neg (by decide), List.set_set, show wrap32 (c - 48) % 256 = c - 48 by rw [w32 _ ⟨by omega, by omega⟩]; omega, Int.toNat_natCast]
        exact goL _ _ _ _ (by rw [List.length_set]; exact hv) (by omega) hm0 (by omega) _ (by omega)
    have digit : (c = 45 ∨ (48 ≤ c ∧ c ≤ 57)) → pats_one.j1 (k + 1 + 1) L told set m (i : Int) (xs.length : Int) L (L.length : Int) (i : Int) true xs vs c ((rd_T66 L (i : Int)).f1) ((rd_T66 L (i : Int)).f2) = some (if set = true ∨ told ≠ (c == 45) ∨ (told = true ∧ (xs.length = 0 ∨ rest = [])) then (xs, vs, false) else oneM told L.length rest true m xs (vs.set xs.length (if told then 1 else c - 48))) := by
      intro hdig
      rw [pats_one.j1.eq_2, if_pos rfl]
      cases set with
      | true => rw [if_pos rfl, bad, if_pos (Or.inl rfl)]
      | false =>
        rw [if_neg (by decide)]
        by_cases h1 : told ≠ (c == 45)
        · rw [if_pos (by simpa using h1), bad, if_pos (Or.inr (Or.inl h1))]
        · rw [if_neg (by simpa using h1)]
          cases told with
          | false =>
            have no : ¬ (false = true ∨ false ≠ (c == 45) ∨ (false = true ∧ (xs.length = 0 ∨ rest = []))) := by
              rintro (h | h | ⟨h, _⟩)
              · cases h
              · exact h1 h
              · cases h
            rw [if_neg no, if_neg (by decide), good k (by omega) (fun _ => trivial) (fun _ => by
              have : (c == 45) = false := by simpa using h1
              have : c ≠ 45 := by simpa using this
              omega)]
          | true =>
            rw [if_pos rfl]
            by_cases h2 : xs.length = 0
            · rw [if_pos (by omega), bad, if_pos (Or.inr (Or.inr ⟨rfl, .inl h2⟩))]
            · rw [if_neg (by omega), wn]
              by_cases h3 : rest = []
              · rw [show ((i : Int) == (L.length : Int) - 1) = true by simpa using hrest.1 h3, bad, if_pos (Or.inr (Or.inr ⟨rfl, .inr h3⟩))]
              · have no : ¬ (false = true ∨ true ≠ (c == 45) ∨ (true = true ∧ (xs.length = 0 ∨ rest = []))) := by
                  rintro (h | h | ⟨_, h⟩)
                  · cases h
                  · exact h1 h
                  · exact h.elim h2 h3
                rw [show ((i : Int) == (L.length : Int) - 1) = false by simpa using fun h => h3 (hrest.2 h), good k (by omega) (fun _ => trivial) (fun h => by cases h), if_neg no]
    have plain : ¬ (c = 45 ∨ (48 ≤ c ∧ c ≤ 57)) → pats_one.j1 (k + 1 + 1) L told set m (i : Int) (xs.length : Int) L (L.length : Int) (i : Int) false xs vs c ((rd_T66 L (i : Int)).f1) ((rd_T66 L (i : Int)).f2) = some (if c = 46 then (if told = true ∨ (rest.length + 1 ≠ L.length ∧ rest ≠ []) then (xs, vs, false) else oneM told L.length rest false m (xs ++ [46]) (vs ++ [0])) else oneM told L.length rest false (m + 1) (xs ++ [c]) (vs ++ [0])) := by
      intro _
      rw [pats_one.j1.eq_2, if_neg (by decide)]
      by_cases h1 : c = 46
      · rw [if_pos h1, if_pos h1]
        cases told with
        | true => rw [if_pos rfl, if_pos (Or.inl rfl)]
        | false =>
          rw [if_neg (by decide), wn]
          by_cases h2 : (i : Int) = 0
          · have no : ¬ (false = true ∨ (rest.length + 1 ≠ L.length ∧ rest ≠ [])) := by
              rintro (h | h)
              · cases h
              · exact h.1 (hfirst.2 h2)
            rw [if_pos h2, Option.bind_some, if_pos (by simp only [List.length_cons, List.length_nil]; omega), Option.bind_some, if_pos (by simp only [List.length_cons, List.length_nil]; omega), w1, if_neg no]
            exact goL _ _ _ _ (by simp [hv]) (by simp; omega) hm0 (by omega) _ (by omega)
          · rw [if_neg h2]
            by_cases h3 : rest = []
            · have no : ¬ (false = true ∨ (rest.length + 1 ≠ L.length ∧ rest ≠ [])) := by
                rintro (h | h)
                · cases h
                · exact h.2 h3
              rw [if_pos (hrest.1 h3), Option.bind_some, if_pos (by simp only [List.length_cons, List.length_nil]; omega), Option.bind_some, if_pos (by simp only [List.length_cons, List.length_nil]; omega), w1, if_neg no]
              exact goL _ _ _ _ (by simp [hv]) (by simp; omega) hm0 (by omega) _ (by omega)
            · rw [if_neg (fun h => h3 (hrest.2 h)), if_pos (Or.inr ⟨fun h => h2 (hfirst.1 h), h3⟩)]
      · rw [if_neg h1, if_neg h1, Option.bind_some, if_pos (by simp only [List.length_cons, List.length_nil]; omega), Option.bind_some, if_pos (by simp only [List.length_cons, List.length_nil]; omega), w1, wm]
        exact goL _ _ _ _ (by simp [hv]) (by simp; omega) (by omega) (by omega) _ (by omega)
    by_cases c2 : c = 45
    · rw [if_pos c2, digit (.inl c2), if_pos (show c = 45 ∨ (48 ≤ c ∧ c ≤ 57) from Or.inl c2)]
    · rw [if_neg c2]
      by_cases c3 : c ≥ 48
      · rw [if_pos c3]
        by_cases c4 : c ≤ 57
        · rw [decide_eq_true c4, digit (.inr ⟨c3, c4⟩), if_pos (show c = 45 ∨ (48 ≤ c ∧ c ≤ 57) from Or.inr ⟨c3, c4⟩)]
        · have hno : ¬ (c = 45 ∨ (48 ≤ c ∧ c ≤ 57)) := by omega
          rw [decide_eq_false c4, plain hno, if_neg hno]
      · have hno : ¬ (c = 45 ∨ (48 ≤ c ∧ c ≤ 57)) := by omega
        rw [if_neg c3, plain hno, if_neg hno]
def oneP (L : List S66) : List Int × List Int × Bool := oneM (Hy.hasHyphen L) L.length (L.map S66.f0) false 0 [] [0]
theorem one_f (L : List S66) (hs : L.length ≤ 100000) (hr : ∀ s ∈ L, 0 ≤ s.f0 ∧ s.f0 < 16777216) (k : Nat) (hk : 3 * L.length + 1 ≤ k) : pats_one.f k L = some (oneP L) := by
  unfold pats_one.f pats_hyphened.f
  rw [Option.bind_some]
  exact one_run _ L hs _ false 0 [] [0] 0 k rfl (by simp) rfl (Nat.le_refl _) (Int.le_refl _) (by omega) (by simpa using hk) (fun r h => by
    obtain ⟨s, h1, rfl⟩ := List.mem_map.1 h
    exact hr s h1)
end Go.Proofs.Ytoefjhdcipgacaa.Dec
end
section
namespace Go.Proofs.Ytoefjhdcipgacaa.Dec
open Go.RowKit Go.Proofs.YtoefjhdcipgacaaW.PrintWords Go.Proofs.YtoefjhdcipgacaaW.PrintLast Go.Proofs.YtoefjhdcipgacaaW.PrintMore
open Go.Proofs.Ytoefjhdcipgacaa.PA
def blankB (c : Int) : Bool := decide (c = 32 ∨ c = 9 ∨ c = 10 ∨ c = 13)
def nb (s : S66) : Bool := !blankB s.f0
theorem blank_eq (c : Int) : pats_blank.f c = some (blankB c) := by
  unfold pats_blank.f blankB
  by_cases h1 : c = 32
  · simp [h1]
  by_cases h2 : c = 9
  · simp [h2]
  by_cases h3 : c = 10
  · simp [h3]
  by_cases h4 : c = 13
  · simp [h4]
  · simp [h1, h2, h3, h4]
abbrev Res := List S39 × List S39 × Int × Int
def pparse : Nat → List S66 → List S39 → List S39 → Res
  | 0, _, xs, ws => (xs, ws, 0, 0)
  | _ + 1, [], xs, ws => (xs, ws, 0, 0)
  | f + 1, s :: t, xs, ws =>
    if blankB s.f0 = true then pparse f t xs ws
    else if xs.length + ws.length ≥ 256 then ([], [], 24, s.f1)
    else
      let word := (s :: t).takeWhile nb
      let p := oneP word
      if p.2.2 = true then
        if Hy.hasHyphen word = true then
          if Hy.hasKey ws p.1 = true then ([], [], 23, s.f1) else pparse f ((s :: t).dropWhile nb) xs (ws ++ [⟨p.1, p.2.1⟩])
        else pparse f ((s :: t).dropWhile nb) (xs ++ [⟨p.1, p.2.1⟩]) ws
      else ([], [], 30, s.f1)
theorem rd66 {L : List S66} {i : Nat} (h : i < L.length) : rd_T66 L (i : Int) = L[i] := by simp [rd_T66, List.getD_eq_getElem?_getD, List.getElem?_eq_getElem h]
theorem l1_run (L : List S66) (hs : L.length ≤ 100000) (i : Int) (xs ws : List S39) (t : List S66) : ∀ (j k : Nat), L.drop j = t → j ≤ L.length →
    pats_Parse.l1 (k + 1 + t.length) L i (j : Int) xs ws = pats_Parse.j2 (k + (t.length - (t.takeWhile nb).length)) L i ((j + (t.takeWhile nb).length : Nat) : Int) xs ws := by
  induction t with
  | nil =>
    intro j k hd hj
    have hjl : j = L.length := by
      have : (L.drop j).length = 0 := by rw [hd]; rfl
      rw [List.length_drop] at this; omega
    show pats_Parse.l1 (k + 1) L i (j : Int) xs ws = _
    rw [pats_Parse.l1.eq_2, if_neg (by omega)]
    rfl
  | cons s t ih =>
    intro j k hd hj
    have hjl : j < L.length := by
      rcases Nat.lt_or_ge j L.length with h | h
      · exact h
      · rw [List.drop_eq_nil_of_le h] at hd; cases hd
    have hd2 := hd
    rw [List.drop_eq_getElem_cons hjl] at hd2
    injection hd2 with hs1 hd2
    show pats_Parse.l1 (k + 1 + t.length + 1) L i (j : Int) xs ws = _
    rw [pats_Parse.l1.eq_2, if_pos (by omega), if_pos (by omega), rd66 hjl, hs1, blank_eq, Option.bind_some]
    by_cases hb : blankB s.f0 = true
    · have hn : nb s = false := by rw [nb, hb]; rfl
      rw [if_pos hb, List.takeWhile_cons_of_neg (by simp [hn])]
      rw [show k + 1 + t.length = k + ((s :: t).length - ([] : List S66).length) by simp; omega]
      rfl
    · have hn : nb s = true := by rw [nb]; simpa using hb
      rw [if_neg hb, List.takeWhile_cons_of_pos hn, w64 _ ⟨by omega, by omega⟩]
      have := ih (j + 1) k hd2 (by omega)
      rw [show ((j : Int) + 1) = ((j + 1 : Nat) : Int) by omega, this, List.length_cons, List.length_cons]
      rw [show t.length + 1 - ((t.takeWhile nb).length + 1) = t.length - (t.takeWhile nb).length by omega, show j + ((t.takeWhile nb).length + 1) = j + 1 + (t.takeWhile nb).length by omega]
theorem takeWhile_drop {α : Type} (p : α → Bool) (l : List α) : l.take (l.takeWhile p).length = l.takeWhile p ∧ l.drop (l.takeWhile p).length = l.dropWhile p := by
  induction l with
  | nil => exact ⟨rfl, rfl⟩
  | cons a l ih =>
    by_cases h : p a = true
    · rw [List.takeWhile_cons_of_pos h, List.dropWhile_cons_of_pos h, List.length_cons, List.take_succ_cons, List.drop_succ_cons, ih.1, ih.2]
      exact ⟨rfl, rfl⟩
    · rw [List.takeWhile_cons_of_neg h, List.dropWhile_cons_of_neg h]
      exact ⟨rfl, rfl⟩
theorem takeWhile_le {α : Type} (p : α → Bool) (l : List α) : (l.takeWhile p).length ≤ l.length := by
  have := List.takeWhile_append_dropWhile (p := p) (l := l)
  have h2 := congrArg List.length this
  rw [List.length_append] at h2
  omega
theorem parse_run (L : List S66) (hs : L.length ≤ 100000) (hr : ∀ s ∈ L, 0 ≤ s.f0 ∧ s.f0 < 16777216) (f : Nat) : ∀ (i k : Nat) (xs ws : List S39), L.length - i ≤ f → i ≤ L.length → 4 * (L.length - i) + 3 * L.length + 10 ≤ k → xs.length + ws.length ≤ 256 →
    pats_Parse.l0 k L (i : Int) xs ws = some (pparse f (L.drop i) xs ws) := by
  induction f with
  | zero =>
    intro i k xs ws hf hi hk hx
    obtain ⟨k, rfl⟩ : ∃ k', k = k' + 1 := ⟨k - 1, by omega⟩
    rw [pats_Parse.l0.eq_2, if_neg (by omega), pparse]
  | succ f ih =>
    intro i k xs ws hf hi hk hx
    rcases Nat.lt_or_ge i L.length with hlt | hge
    · obtain ⟨k, rfl⟩ : ∃ k', k = k' + 1 := ⟨k - 1, by omega⟩
      have hd := List.drop_eq_getElem_cons hlt
      obtain ⟨s, t, hst⟩ : ∃ s t, L.drop i = s :: t := ⟨_, _, hd⟩
      have hst2 := hst
      rw [hd] at hst2
      injection hst2 with hs1 hs2
      rw [pats_Parse.l0.eq_2, if_pos (by omega), if_pos (by omega), rd66 hlt, hs1, blank_eq, Option.bind_some, hst, pparse]
      by_cases hb : blankB s.f0 = true
      · rw [if_pos hb, if_pos hb, w64 _ ⟨by omega, by omega⟩, show ((i : Int) + 1) = ((i + 1 : Nat) : Int) by omega, ih (i + 1) k xs ws (by omega) (by omega) (by omega) hx, hs2]
      · rw [if_neg hb, if_neg hb]
        have hn : nb s = true := by rw [nb]; simpa using hb
        have htl : t.length + 1 = L.length - i := by
          have := congrArg List.length hst
          rw [List.length_drop, List.length_cons] at this
          omega
        obtain ⟨k', hk'⟩ : ∃ k', k = k' + 1 + (s :: t).length := ⟨k - 1 - (s :: t).length, by rw [List.length_cons]; omega⟩
        rw [hk', l1_run L hs (i : Int) xs ws (s :: t) i k' hst (by omega)]
        obtain ⟨td, tr⟩ := takeWhile_drop nb (s :: t)
        have hle := takeWhile_le nb (s :: t)
        have hpos : 1 ≤ ((s :: t).takeWhile nb).length := by rw [List.takeWhile_cons_of_pos hn, List.length_cons]; omega
        obtain ⟨wd, hwd⟩ : ∃ wd, wd = (s :: t).takeWhile nb := ⟨_, rfl⟩
        obtain ⟨rs, hrs⟩ : ∃ rs, rs = (s :: t).dropWhile nb := ⟨_, rfl⟩
        rw [List.length_cons] at hle hk'
        rw [← hwd] at td tr hle hpos ⊢
        rw [← hrs] at tr ⊢
        rw [List.length_cons]
        have e1 : (L.take (((i + wd.length : Nat) : Int)).toNat).drop ((i : Int)).toNat = wd := by
          rw [Int.toNat_natCast, Int.toNat_natCast, List.drop_take, show i + wd.length - i = wd.length by omega, hst, td]
        have e2 : L.drop (i + wd.length) = rs := by rw [← List.drop_drop, hst, tr]
        obtain ⟨k2, hk2⟩ : ∃ k2, k' + (t.length + 1 - wd.length) = k2 + 1 := ⟨k' + (t.length + 1 - wd.length) - 1, by omega⟩
        rw [hk2, pats_Parse.j2.eq_2, if_pos (by omega), if_pos (by omega), w64 _ ⟨by omega, by omega⟩, rd66 hlt, hs1]
        by_cases hm : xs.length + ws.length ≥ 256
        · rw [if_pos (by omega), if_pos hm]
        · rw [if_neg (by omega), if_neg hm, if_pos (by omega), if_pos (by omega), Option.bind_some, e1]
          have hone := one_f wd (by omega) (fun x hx => hr x (by
            have h1 : x ∈ s :: t := by rw [hwd] at hx; exact (List.takeWhile_sublist nb).subset hx
            rw [← hst] at h1
            exact List.mem_of_mem_drop h1)) k2 (by omega)
          rw [hone, Option.bind_some]
          dsimp only
          have hih : ∀ xs' ws', xs'.length + ws'.length ≤ 256 → pats_Parse.l0 k2 L ((i + wd.length : Nat) : Int) xs' ws' = some (pparse f rs xs' ws') := fun xs' ws' hx' => by
            rw [ih (i + wd.length) k2 xs' ws' (by omega) (by omega) (by omega) hx', e2]
          by_cases hok : (oneP wd).2.2 = true
          · rw [if_pos hok, if_pos hok, pats_hyphened.f, Option.bind_some]
            by_cases hh : Hy.hasHyphen wd = true
            · rw [if_pos hh, if_pos hh, api_Pattern_54.f, Option.bind_some]
              by_cases hk3 : Hy.hasKey ws (oneP wd).1 = true
              · rw [if_pos hk3, if_pos hk3]
              · rw [if_neg hk3, if_neg hk3, if_pos (by omega)]
                exact hih _ _ (by rw [List.length_append, List.length_cons, List.length_nil]; omega)
            · rw [if_neg hh, if_neg hh, if_pos (by omega)]
              exact hih _ _ (by rw [List.length_append, List.length_cons, List.length_nil]; omega)
          · rw [if_neg hok, if_neg hok]
    · obtain ⟨k, rfl⟩ : ∃ k', k = k' + 1 := ⟨k - 1, by omega⟩
      rw [pats_Parse.l0.eq_2, if_neg (by omega), List.drop_eq_nil_of_le hge, pparse]
def signs (s : ByteArray) : List S66 := decAll (PA.bytesOf s) (PA.bytesOf s).length 0
def parseOf (s : ByteArray) : Res := if 4096 < s.size then ([], [], 24, 4096) else pparse (signs s).length (signs s) [] []
theorem parse_eq (s : ByteArray) (k : Nat) (hk : 40000 ≤ k) : pats_Parse.f k s = some (parseOf s) := by
  unfold pats_Parse.f parseOf
  by_cases h : 4096 < s.size
  · rw [if_pos (by omega), if_pos h]
  · rw [if_neg (by omega), if_neg h]
    have hb := isBytes_of s
    have hlen : (PA.bytesOf s).length ≤ 4096 := by rw [PA.bytesOf_length]; omega
    rw [all_eq hb (by omega) k (by omega), Option.bind_some]
    have hsl : (signs s).length ≤ 4096 := Nat.le_trans (decAll_len _ _ _) hlen
    have := parse_run (signs s) (by omega) (decAll_in hb _ _) (signs s).length 0 k [] [] (by omega) (by omega) (by omega) (by decide)
    exact this
def GoodP (p : S39) : Prop := p.f0.length ≤ 24 ∧ p.f1.length = p.f0.length + 1 ∧ (∀ x ∈ p.f1, 0 ≤ x) ∧ ∀ r ∈ p.f0, 0 ≤ r ∧ r < 16777216
theorem pparse_good (f : Nat) : ∀ (l : List S66) (xs ws : List S39), (∀ s ∈ l, 0 ≤ s.f0 ∧ s.f0 < 16777216) → (∀ p ∈ xs, GoodP p) → (∀ p ∈ ws, GoodP p) → xs.length + ws.length ≤ 256 →
    (∀ p ∈ (pparse f l xs ws).1, GoodP p) ∧ (∀ p ∈ (pparse f l xs ws).2.1, GoodP p) ∧ (pparse f l xs ws).1.length + (pparse f l xs ws).2.1.length ≤ 256 := by
  induction f with
  | zero => intro l xs ws _ hx hw hn; exact ⟨hx, hw, hn⟩
  | succ f ih =>
    intro l xs ws hl hx hw hn
    cases l with
    | nil => exact ⟨hx, hw, hn⟩
    | cons s t =>
      have hnil : (∀ p ∈ ([] : List S39), GoodP p) := fun p hp => by cases hp
      have htr : ∀ x ∈ (s :: t).dropWhile nb, 0 ≤ x.f0 ∧ x.f0 < 16777216 := fun x hx => hl x ((List.dropWhile_sublist nb).subset hx)
      rw [pparse]
      split
      · exact ih t xs ws (fun x hx => hl x (List.mem_cons_of_mem _ hx)) hx hw hn
      · split
        · exact ⟨hnil, hnil, Nat.zero_le _⟩
        · rename_i hm
          dsimp only
          split
          · rename_i hok
            have hg : GoodP ⟨(oneP ((s :: t).takeWhile nb)).1, (oneP ((s :: t).takeWhile nb)).2.1⟩ := by
              obtain ⟨a1, a2, a3, a4⟩ := oneM_good _ _ _ _ _ _ _ (oneP ((s :: t).takeWhile nb)).1 (oneP ((s :: t).takeWhile nb)).2.1 (by rw [← hok]; rfl) rfl (by simp)
              refine ⟨a1, a2, a3, fun r hr => ?_⟩
              rcases a4 r hr with h | h
              · cases h
              · obtain ⟨x, hx, rfl⟩ := List.mem_map.1 h
                exact hl x ((List.takeWhile_sublist nb).subset hx)
            have happ : ∀ ys : List S39, (∀ p ∈ ys, GoodP p) → ∀ p ∈ ys ++ [⟨(oneP ((s :: t).takeWhile nb)).1, (oneP ((s :: t).takeWhile nb)).2.1⟩], GoodP p := by
              intro ys hy p hp
              rcases List.mem_append.1 hp with h | h
              · exact hy p h
              · rw [List.mem_singleton.1 h]; exact hg
            split
            · split
              · exact ⟨hnil, hnil, Nat.zero_le _⟩
              · exact ih _ _ _ htr hx (happ ws hw) (by rw [List.length_append, List.length_cons, List.length_nil]; omega)
            · exact ih _ _ _ htr (happ xs hx) hw (by rw [List.length_append, List.length_cons, List.length_nil]; omega)
          · exact ⟨hnil, hnil, Nat.zero_le _⟩
theorem parseOf_good (s : ByteArray) : (∀ p ∈ (parseOf s).1, GoodP p) ∧ (∀ p ∈ (parseOf s).2.1, GoodP p) ∧ (parseOf s).1.length + (parseOf s).2.1.length ≤ 256 := by
  unfold parseOf
  split
  · exact ⟨fun p hp => (by cases hp), fun p hp => (by cases hp), Nat.zero_le _⟩
  · exact pparse_good _ _ _ _ (decAll_in (isBytes_of s) _ _) (fun p hp => by cases hp) (fun p hp => by cases hp) (Nat.zero_le _)
theorem parseOf_fit (s : ByteArray) : Tr.Fit (parseOf s).1 := by
  obtain ⟨h1, _, h3⟩ := parseOf_good s
  refine ⟨by omega, fun p hp => ?_⟩
  obtain ⟨a1, a2, a3, a4⟩ := h1 p hp
  exact ⟨by omega, by omega, fun r hr => by have := a4 r hr; exact ⟨by omega, by omega⟩, a3⟩
theorem parseOf_told (s : ByteArray) : ∀ p ∈ (parseOf s).2.1, p.f1.length = p.f0.length + 1 := fun p hp => ((parseOf_good s).2.1 p hp).2.1
end Go.Proofs.Ytoefjhdcipgacaa.Dec
end
