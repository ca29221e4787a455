/-
 Part 19 of what the law HyphPoints rests on: contracts of the functions that it calls, and plain laws of what they compute.
-/
import Derived.Test.YtoefjhdcipgacaaHP6
import Derived.Test.YtoefjhdcipgacaaHP8
import Derived.Test.YtoefjhdcipgacaaHP15
import Derived.Test.YtoefjhdcipgacaaHP17
section
namespace Go.Proofs.Ytoefjhdcipgacaa.Dec
open Go.RowKit Go.Proofs.YtoefjhdcipgacaaW.PrintWords Go.Proofs.YtoefjhdcipgacaaW.PrintLast Go.Proofs.YtoefjhdcipgacaaW.PrintMore
open Go.Proofs.Ytoefjhdcipgacaa.PA
def decAll (l : List Int) : Nat → Int → List S66
 | 0, _ => []
 | f + 1, i => if i < (l.length : Int) then ⟨(dec l i).1, i, (dec l i).2⟩ :: decAll l f (i + (dec l i).2) else []
theorem all_l0 (k : Nat) (x0 : List Int) (x3 : List S66) (x4 : Int) : scal_All.l0 (k + 1) x0 x3 x4 = if x4 < (x0.length : Int) then ((scal_One.f k x0 x4).bind fun b => (if x3.length < 5864062014805 then (scal_All.l0 k x0 (x3 ++ [(⟨b.1, b.2.1, b.2.2⟩ : S66)]) (wrap64 (x4 + b.2.2))) else (none))) else (some x3) := rfl
theorem all_run {l : List Int} (hl : IsBytes l) (hs : l.length ≤ 100000) (f : Nat) : ∀ (i : Int) (xs : List S66) (k : Nat), 0 ≤ i → (l.length : Int) - i ≤ f → (xs.length : Int) ≤ i → f + 9 ≤ k → scal_All.l0 k l xs i = some (xs ++ decAll l f i) := by
 induction f with
 | zero =>
  intro i xs k h0 hf hx hk
  obtain ⟨k, rfl⟩ : ∃ k', k = k' + 1 := ⟨k - 1, by omega⟩
  rw [all_l0, if_neg (show ¬ i < (l.length : Int) by omega), decAll, List.append_nil]
 | succ f ih =>
  intro i xs k h0 hf hx hk
  obtain ⟨k, rfl⟩ : ∃ k', k = k' + 8 + 1 := ⟨k - 9, by omega⟩
  rw [all_l0, decAll]
  by_cases h : i < (l.length : Int)
  ·have hd := dec_len l i
   rw [if_pos h, if_pos h, one_eq hl i h0 h hs k, Option.bind_some, if_pos (by omega)]
   dsimp only
   rw [w64 _ ⟨by omega, by omega⟩]
   rw [ih (i + (dec l i).2) _ (k + 8) (by omega) (by omega) (by rw [List.length_append]; simp only [List.length_cons, List.length_nil]; omega) (by omega)]
   rw [List.append_assoc]
   rfl
  ·rw [if_neg h, if_neg h, List.append_nil]
theorem all_eq {l : List Int} (hl : IsBytes l) (hs : l.length ≤ 100000) (k : Nat) (hk : l.length + 9 ≤ k) : scal_All.f k l = some (decAll l l.length 0) := by
 have := all_run hl hs l.length 0 [] k (by omega) (by omega) (by simp) hk
 rwa [List.nil_append] at this
theorem decAll_len (l : List Int) (f : Nat) : ∀ i, (decAll l f i).length ≤ f := by
 induction f with
 | zero => intro i; exact Nat.le_refl _
 | succ f ih =>
  intro i
  unfold decAll
  split
  ·rw [List.length_cons]; have := ih (i + (dec l i).2); omega
  ·exact Nat.zero_le _
theorem decAll_in {l : List Int} (hl : IsBytes l) (f : Nat) : ∀ i, ∀ s ∈ decAll l f i, 0 ≤ s.f0 ∧ s.f0 < 16777216 := by
 induction f with
 | zero => intro i s hs; cases hs
 | succ f ih =>
  intro i s hs
  unfold decAll at hs
  split at hs
  ·rcases List.mem_cons.1 hs with rfl | hs
   ·exact dec_in hl i
   ·exact ih _ s hs
  ·cases hs
def oneM (told : Bool) (n : Nat) : List Int → Bool → Int → List Int → List Int → List Int × List Int × Bool
 | [], _, m, xs, vs => (xs, vs, decide (m > 0) && decide ((xs.length : Int) ≤ 24))
 | c :: rest, set, m, xs, vs =>
  if c = 65533 then (xs, vs, false)
  else if c = 45 ∨ (48 ≤ c ∧ c ≤ 57) then
   if set = true ∨ told ≠ (c == 45) ∨ (told = true ∧ (xs.length = 0 ∨ rest = [])) then (xs, vs, false)
   else oneM told n rest true m xs (vs.set xs.length (if told then 1 else c - 48))
  else if c = 46 then
   if told = true ∨ (rest.length + 1 ≠ n ∧ rest ≠ []) then (xs, vs, false)
   else oneM told n rest false m (xs ++ [46]) (vs ++ [0])
  else oneM told n rest false (m + 1) (xs ++ [c]) (vs ++ [0])
theorem oneM_good (told : Bool) (n : Nat) (l : List Int) : ∀ set m xs vs r1 r2, oneM told n l set m xs vs = (r1, r2, true) → vs.length = xs.length + 1 → (∀ x ∈ vs, 0 ≤ x) →
  r1.length ≤ 24 ∧ r2.length = r1.length + 1 ∧ (∀ x ∈ r2, 0 ≤ x) ∧ ∀ r ∈ r1, r ∈ xs ∨ r ∈ l := by
 induction l with
 | nil =>
  intro set m xs vs r1 r2 h hl hv
  simp only [oneM, Prod.mk.injEq, Bool.and_eq_true, decide_eq_true_eq] at h
  obtain ⟨rfl, rfl, _, h⟩ := h
  exact ⟨by omega, hl, hv, fun r hr => .inl hr⟩
 | cons c l ih =>
  intro set m xs vs r1 r2 h hl hv
  have key : ∀ set m xs' vs', oneM told n l set m xs' vs' = (r1, r2, true) → vs'.length = xs'.length + 1 → (∀ x ∈ vs', 0 ≤ x) → (∀ r ∈ xs', r ∈ xs ∨ r = c) → r1.length ≤ 24 ∧ r2.length = r1.length + 1 ∧ (∀ x ∈ r2, 0 ≤ x) ∧ ∀ r ∈ r1, r ∈ xs ∨ r ∈ c :: l := by
   intro set m xs' vs' h1 h2 h3 h4
   obtain ⟨a1, a2, a3, a4⟩ := ih set m xs' vs' r1 r2 h1 h2 h3
   refine ⟨a1, a2, a3, fun r hr => ?_⟩
   rcases a4 r hr with h | h
   ·rcases h4 r h with h | rfl
    ·exact .inl h
    ·exact .inr (List.mem_cons_self ..)
   ·exact .inr (List.mem_cons_of_mem _ h)
  have hv0 : ∀ x ∈ vs ++ [0], 0 ≤ x := by
   intro x hx
   rcases List.mem_append.1 hx with hx | hx
   ·exact hv x hx
   ·rw [List.mem_singleton.1 hx]; exact Int.le_refl _
  unfold oneM at h
  split at h
  ·simp at h
  ·split at h
   ·rename_i hc
    split at h
    ·simp at h
    ·rename_i hn
     refine key _ _ _ _ h (by rw [List.length_set]; exact hl) (fun x hx => ?_) (fun r hr => .inl hr)
     rcases List.mem_or_eq_of_mem_set hx with hx | rfl
     ·exact hv x hx
     ·split
      ·decide
      ·rename_i ht
       rcases hc with rfl | hc
       ·exfalso
        apply hn
        right; left
        simp [ht]
       ·omega
   ·split at h
    ·split at h
     ·simp at h
     ·rename_i hc _
      refine key _ _ _ _ h (by simp [hl]) hv0 (fun r hr => ?_)
      rcases List.mem_append.1 hr with hr | hr
      ·exact .inl hr
      ·right; rw [List.mem_singleton.1 hr, hc]
    ·refine key _ _ _ _ h (by simp [hl]) hv0 (fun r hr => ?_)
     rcases List.mem_append.1 hr with hr | hr
     ·exact .inl hr
     ·right; rw [List.mem_singleton.1 hr]
theorem drop_step {L : List S66} {i : Nat} {c : Int} {rest : List Int} (h : (L.drop i).map S66.f0 = c :: rest) : i < L.length ∧ (rd_T66 L (i : Int)).f0 = c ∧ (L.drop (i + 1)).map S66.f0 = rest := by
 have hi : i < L.length := by
  rcases Nat.lt_or_ge i L.length with h1 | h1
  ·exact h1
  ·rw [List.drop_eq_nil_of_le h1] at h; cases h
 rw [List.drop_eq_getElem_cons hi, List.map_cons] at h
 injection h with h1 h2
 refine ⟨hi, ?_, h2⟩
 rw [← h1]
 simp [rd_T66, List.getD_eq_getElem?_getD, List.getElem?_eq_getElem hi]
theorem one_run (told : Bool) (L : List S66) (hs : L.length ≤ 100000) (rest : List Int) : ∀ (set : Bool) (m : Int) (xs vs : List Int) (i k : Nat), (L.drop i).map S66.f0 = rest → i + rest.length = L.length → vs.length = xs.length + 1 → xs.length ≤ i → 0 ≤ m → m ≤ i → 3 * rest.length + 1 ≤ k → (∀ r ∈ rest, 0 ≤ r ∧ r < 16777216) →
  pats_one.l0 k L told set m L (L.length : Int) (i : Int) xs vs = some (oneM told L.length rest set m xs vs) := by
 induction rest with
 | nil =>
  intro set m xs vs i k hd hn hv hx hm0 hm1 hk hr
  obtain ⟨k, rfl⟩ : ∃ k', k = k' + 1 := ⟨k - 1, by omega⟩
  rw [pats_one.l0.eq_2, if_neg (by simp only [List.length_nil] at hn; omega), oneM]
  by_cases h : m > 0
  ·rw [if_pos h, decide_eq_true h, Bool.true_and]
  ·rw [if_neg h, decide_eq_false h, Bool.false_and]
 | cons c rest ih =>
  intro set m xs vs i k hd hn hv hx hm0 hm1 hk hr
  obtain ⟨hi, hc, hd'⟩ := drop_step hd
  rw [List.length_cons] at hn hk
  obtain ⟨k, rfl⟩ : ∃ k', k = k' + 1 + 1 + 1 := ⟨k - 3, by omega⟩
  have hcr := hr c (List.mem_cons_self ..)
  have hr' : ∀ r ∈ rest, 0 ≤ r ∧ r < 16777216 := fun r h => hr r (List.mem_cons_of_mem _ h)
  have hrest : (rest = []) ↔ ((i : Int) = (L.length : Int) - 1) := by
   rw [← List.length_eq_zero_iff]; omega
  have hfirst : rest.length + 1 = L.length ↔ (i : Int) = 0 := by omega
  have w1 : wrap64 ((i : Int) + 1) = ((i + 1 : Nat) : Int) := by rw [w64 _ ⟨by omega, by omega⟩]; rfl
  have wn : wrap64 ((L.length : Int) - 1) = (L.length : Int) - 1 := w64 _ ⟨by omega, by omega⟩
  have wm : wrap64 (m + 1) = m + 1 := w64 _ ⟨by omega, by omega⟩
  have goL : ∀ set' m' xs' vs', vs'.length = xs'.length + 1 → xs'.length ≤ i + 1 → 0 ≤ m' → m' ≤ ((i + 1 : Nat) : Int) → ∀ k', k ≤ k' → pats_one.l0 k' L told set' m' L (L.length : Int) ((i + 1 : Nat) : Int) xs' vs' = some (oneM told L.length rest set' m' xs' vs') :=
   fun set' m' xs' vs' h1 h2 h3 h4 k' hk' => ih set' m' xs' vs' (i + 1) k' hd' (by omega) h1 h2 h3 h4 (by omega) hr'
  rw [pats_one.l0.eq_2, if_pos (by omega), if_pos (by omega), if_pos (by omega), hc, oneM]
  by_cases c1 : c = 65533
  ·rw [if_pos c1, if_pos c1]
  rw [if_neg c1, if_neg c1]
  have bad : ∀ k', pats_one.j2 (k' + 1) L told m (xs.length : Int) L (L.length : Int) (i : Int) true xs vs c ((rd_T66 L (i : Int)).f1) ((rd_T66 L (i : Int)).f2) = some (xs, vs, false) := fun k' => by rw [pats_one.j2.eq_2, if_pos rfl]
  have good : ∀ k', k ≤ k' → (told = true → True) → (told = false → 48 ≤ c ∧ c ≤ 57) → pats_one.j2 (k' + 1) L told m (xs.length : Int) L (L.length : Int) (i : Int) false xs vs c ((rd_T66 L (i : Int)).f1) ((rd_T66 L (i : Int)).f2) = some (oneM told L.length rest true m xs (vs.set xs.length (if told then 1 else c - 48))) := by
   intro k' hk' _ ht
   rw [pats_one.j2.eq_2, if_neg (by decide), if_pos (by omega), if_pos (by omega), Option.bind_some, w1]
   cases told with
   | true =>
    rw [if_pos rfl, if_pos rfl]
    exact goL _ _ _ _ (by rw [List.length_set]; exact hv) (by omega) hm0 (by omega) _ (by omega)
   | false =>
    have h := ht rfl
    rw [if_neg (by decide), if_neg (by decide), List.set_set, show wrap32 (c - 48) % 256 = c - 48 by rw [w32 _ ⟨by omega, by omega⟩]; omega, Int.toNat_natCast]
    exact goL _ _ _ _ (by rw [List.length_set]; exact hv) (by omega) hm0 (by omega) _ (by omega)
  have digit : (c = 45 ∨ (48 ≤ c ∧ c ≤ 57)) → pats_one.j1 (k + 1 + 1) L told set m (i : Int) (xs.length : Int) L (L.length : Int) (i : Int) true xs vs c ((rd_T66 L (i : Int)).f1) ((rd_T66 L (i : Int)).f2) = some (if set = true ∨ told ≠ (c == 45) ∨ (told = true ∧ (xs.length = 0 ∨ rest = [])) then (xs, vs, false) else oneM told L.length rest true m xs (vs.set xs.length (if told then 1 else c - 48))) := by
   intro hdig
   rw [pats_one.j1.eq_2, if_pos rfl]
   cases set with
   | true => rw [if_pos rfl, bad, if_pos (Or.inl rfl)]
   | false =>
    rw [if_neg (by decide)]
    by_cases h1 : told ≠ (c == 45)
    ·rw [if_pos (by simpa using h1), bad, if_pos (Or.inr (Or.inl h1))]
    ·rw [if_neg (by simpa using h1)]
     cases told with
     | false =>
      have no : ¬ (false = true ∨ false ≠ (c == 45) ∨ (false = true ∧ (xs.length = 0 ∨ rest = []))) := by
       rintro (h | h | ⟨h, _⟩)
       ·cases h
       ·exact h1 h
       ·cases h
      rw [if_neg no, if_neg (by decide), good k (by omega) (fun _ => trivial) (fun _ => by
       have : (c == 45) = false := by simpa using h1
       have : c ≠ 45 := by simpa using this
       omega)]
     | true =>
      rw [if_pos rfl]
      by_cases h2 : xs.length = 0
      ·rw [if_pos (by omega), bad, if_pos (Or.inr (Or.inr ⟨rfl, .inl h2⟩))]
      ·rw [if_neg (by omega), wn]
       by_cases h3 : rest = []
       ·rw [show ((i : Int) == (L.length : Int) - 1) = true by simpa using hrest.1 h3, bad, if_pos (Or.inr (Or.inr ⟨rfl, .inr h3⟩))]
       ·have no : ¬ (false = true ∨ true ≠ (c == 45) ∨ (true = true ∧ (xs.length = 0 ∨ rest = []))) := by
         rintro (h | h | ⟨_, h⟩)
         ·cases h
         ·exact h1 h
         ·exact h.elim h2 h3
        rw [show ((i : Int) == (L.length : Int) - 1) = false by simpa using fun h => h3 (hrest.2 h), good k (by omega) (fun _ => trivial) (fun h => by cases h), if_neg no]
  have plain : ¬ (c = 45 ∨ (48 ≤ c ∧ c ≤ 57)) → pats_one.j1 (k + 1 + 1) L told set m (i : Int) (xs.length : Int) L (L.length : Int) (i : Int) false xs vs c ((rd_T66 L (i : Int)).f1) ((rd_T66 L (i : Int)).f2) = some (if c = 46 then (if told = true ∨ (rest.length + 1 ≠ L.length ∧ rest ≠ []) then (xs, vs, false) else oneM told L.length rest false m (xs ++ [46]) (vs ++ [0])) else oneM told L.length rest false (m + 1) (xs ++ [c]) (vs ++ [0])) := by
   intro _
   rw [pats_one.j1.eq_2, if_neg (by decide)]
   by_cases h1 : c = 46
   ·rw [if_pos h1, if_pos h1]
    cases told with
    | true => rw [if_pos rfl, if_pos (Or.inl rfl)]
    | false =>
     rw [if_neg (by decide), wn]
     by_cases h2 : (i : Int) = 0
     ·have no : ¬ (false = true ∨ (rest.length + 1 ≠ L.length ∧ rest ≠ [])) := by
       rintro (h | h)
       ·cases h
       ·exact h.1 (hfirst.2 h2)
      rw [if_pos h2, Option.bind_some, if_pos (by simp only [List.length_cons, List.length_nil]; omega), Option.bind_some, if_pos (by simp only [List.length_cons, List.length_nil]; omega), w1, if_neg no]
      exact goL _ _ _ _ (by simp [hv]) (by simp; omega) hm0 (by omega) _ (by omega)
     ·rw [if_neg h2]
      by_cases h3 : rest = []
      ·have no : ¬ (false = true ∨ (rest.length + 1 ≠ L.length ∧ rest ≠ [])) := by
        rintro (h | h)
        ·cases h
        ·exact h.2 h3
       rw [if_pos (hrest.1 h3), Option.bind_some, if_pos (by simp only [List.length_cons, List.length_nil]; omega), Option.bind_some, if_pos (by simp only [List.length_cons, List.length_nil]; omega), w1, if_neg no]
       exact goL _ _ _ _ (by simp [hv]) (by simp; omega) hm0 (by omega) _ (by omega)
      ·rw [if_neg (fun h => h3 (hrest.2 h)), if_pos (Or.inr ⟨fun h => h2 (hfirst.1 h), h3⟩)]
   ·rw [if_neg h1, if_neg h1, Option.bind_some, if_pos (by simp only [List.length_cons, List.length_nil]; omega), Option.bind_some, if_pos (by simp only [List.length_cons, List.length_nil]; omega), w1, wm]
    exact goL _ _ _ _ (by simp [hv]) (by simp; omega) (by omega) (by omega) _ (by omega)
  by_cases c2 : c = 45
  ·rw [if_pos c2, digit (.inl c2), if_pos (show c = 45 ∨ (48 ≤ c ∧ c ≤ 57) from Or.inl c2)]
  ·rw [if_neg c2]
   by_cases c3 : c ≥ 48
   ·rw [if_pos c3]
    by_cases c4 : c ≤ 57
    ·rw [decide_eq_true c4, digit (.inr ⟨c3, c4⟩), if_pos (show c = 45 ∨ (48 ≤ c ∧ c ≤ 57) from Or.inr ⟨c3, c4⟩)]
    ·have hno : ¬ (c = 45 ∨ (48 ≤ c ∧ c ≤ 57)) := by omega
     rw [decide_eq_false c4, plain hno, if_neg hno]
   ·have hno : ¬ (c = 45 ∨ (48 ≤ c ∧ c ≤ 57)) := by omega
    rw [if_neg c3, plain hno, if_neg hno]
def oneP (L : List S66) : List Int × List Int × Bool := oneM (Hy.hasHyphen L) L.length (L.map S66.f0) false 0 [] [0]
theorem one_f (L : List S66) (hs : L.length ≤ 100000) (hr : ∀ s ∈ L, 0 ≤ s.f0 ∧ s.f0 < 16777216) (k : Nat) (hk : 3 * L.length + 1 ≤ k) : pats_one.f k L = some (oneP L) := by
 unfold pats_one.f pats_hyphened.f
 rw [Option.bind_some]
 exact one_run _ L hs _ false 0 [] [0] 0 k rfl (by simp) rfl (Nat.le_refl _) (Int.le_refl _) (by omega) (by simpa using hk) (fun r h => by
  obtain ⟨s, h1, rfl⟩ := List.mem_map.1 h
  exact hr s h1)
end Go.Proofs.Ytoefjhdcipgacaa.Dec
end
section
namespace Go.Proofs.Ytoefjhdcipgacaa.Dec
open Go.RowKit Go.Proofs.YtoefjhdcipgacaaW.PrintWords Go.Proofs.YtoefjhdcipgacaaW.PrintLast Go.Proofs.YtoefjhdcipgacaaW.PrintMore
open Go.Proofs.Ytoefjhdcipgacaa.PA
def blankB (c : Int) : Bool := decide (c = 32 ∨ c = 9 ∨ c = 10 ∨ c = 13)
def nb (s : S66) : Bool := !blankB s.f0
theorem blank_eq (c : Int) : pats_blank.f c = some (blankB c) := by
 unfold pats_blank.f blankB
 by_cases h1 : c = 32
 ·simp [h1]
 by_cases h2 : c = 9
 ·simp [h2]
 by_cases h3 : c = 10
 ·simp [h3]
 by_cases h4 : c = 13
 ·simp [h4]
 ·simp [h1, h2, h3, h4]
abbrev Res := List S39 × List S39 × Int × Int
def pparse : Nat → List S66 → List S39 → List S39 → Res
 | 0, _, xs, ws => (xs, ws, 0, 0)
 | _ + 1, [], xs, ws => (xs, ws, 0, 0)
 | f + 1, s :: t, xs, ws =>
  if blankB s.f0 = true then pparse f t xs ws
  else if xs.length + ws.length ≥ 256 then ([], [], 24, s.f1)
  else
   let word := (s :: t).takeWhile nb
   let p := oneP word
   if p.2.2 = true then
    if Hy.hasHyphen word = true then
     if Hy.hasKey ws p.1 = true then ([], [], 23, s.f1) else pparse f ((s :: t).dropWhile nb) xs (ws ++ [⟨p.1, p.2.1⟩])
    else pparse f ((s :: t).dropWhile nb) (xs ++ [⟨p.1, p.2.1⟩]) ws
   else ([], [], 30, s.f1)
theorem rd66 {L : List S66} {i : Nat} (h : i < L.length) : rd_T66 L (i : Int) = L[i] := by simp [rd_T66, List.getD_eq_getElem?_getD, List.getElem?_eq_getElem h]
theorem l1_run (L : List S66) (hs : L.length ≤ 100000) (i : Int) (xs ws : List S39) (t : List S66) : ∀ (j k : Nat), L.drop j = t → j ≤ L.length →
  pats_Parse.l1 (k + 1 + t.length) L i (j : Int) xs ws = pats_Parse.j2 (k + (t.length - (t.takeWhile nb).length)) L i ((j + (t.takeWhile nb).length : Nat) : Int) xs ws := by
 induction t with
 | nil =>
  intro j k hd hj
  have hjl : j = L.length := by
   have : (L.drop j).length = 0 := by rw [hd]; rfl
   rw [List.length_drop] at this; omega
  show pats_Parse.l1 (k + 1) L i (j : Int) xs ws = _
  rw [pats_Parse.l1.eq_2, if_neg (by omega)]
  rfl
 | cons s t ih =>
  intro j k hd hj
  have hjl : j < L.length := by
   rcases Nat.lt_or_ge j L.length with h | h
   ·exact h
   ·rw [List.drop_eq_nil_of_le h] at hd; cases hd
  have hd2 := hd
  rw [List.drop_eq_getElem_cons hjl] at hd2
  injection hd2 with hs1 hd2
  show pats_Parse.l1 (k + 1 + t.length + 1) L i (j : Int) xs ws = _
  rw [pats_Parse.l1.eq_2, if_pos (by omega), if_pos (by omega), rd66 hjl, hs1, blank_eq, Option.bind_some]
  by_cases hb : blankB s.f0 = true
  ·have hn : nb s = false := by rw [nb, hb]; rfl
   rw [if_pos hb, List.takeWhile_cons_of_neg (by simp [hn])]
   rw [show k + 1 + t.length = k + ((s :: t).length - ([] : List S66).length) by simp; omega]
   rfl
  ·have hn : nb s = true := by rw [nb]; simpa using hb
   rw [if_neg hb, List.takeWhile_cons_of_pos hn, w64 _ ⟨by omega, by omega⟩]
   have := ih (j + 1) k hd2 (by omega)
   rw [show ((j : Int) + 1) = ((j + 1 : Nat) : Int) by omega, this, List.length_cons, List.length_cons]
   rw [show t.length + 1 - ((t.takeWhile nb).length + 1) = t.length - (t.takeWhile nb).length by omega, show j + ((t.takeWhile nb).length + 1) = j + 1 + (t.takeWhile nb).length by omega]
theorem takeWhile_drop {α : Type} (p : α → Bool) (l : List α) : l.take (l.takeWhile p).length = l.takeWhile p ∧ l.drop (l.takeWhile p).length = l.dropWhile p := by
 induction l with
 | nil => exact ⟨rfl, rfl⟩
 | cons a l ih =>
  by_cases h : p a = true
  ·rw [List.takeWhile_cons_of_pos h, List.dropWhile_cons_of_pos h, List.length_cons, List.take_succ_cons, List.drop_succ_cons, ih.1, ih.2]
   exact ⟨rfl, rfl⟩
  ·rw [List.takeWhile_cons_of_neg h, List.dropWhile_cons_of_neg h]
   exact ⟨rfl, rfl⟩
theorem takeWhile_le {α : Type} (p : α → Bool) (l : List α) : (l.takeWhile p).length ≤ l.length := by
 have := List.takeWhile_append_dropWhile (p := p) (l := l)
 have h2 := congrArg List.length this
 rw [List.length_append] at h2
 omega
theorem parse_run (L : List S66) (hs : L.length ≤ 100000) (hr : ∀ s ∈ L, 0 ≤ s.f0 ∧ s.f0 < 16777216) (f : Nat) : ∀ (i k : Nat) (xs ws : List S39), L.length - i ≤ f → i ≤ L.length → 4 * (L.length - i) + 3 * L.length + 10 ≤ k → xs.length + ws.length ≤ 256 →
  pats_Parse.l0 k L (i : Int) xs ws = some (pparse f (L.drop i) xs ws) := by
 induction f with
 | zero =>
  intro i k xs ws hf hi hk hx
  obtain ⟨k, rfl⟩ : ∃ k', k = k' + 1 := ⟨k - 1, by omega⟩
  rw [pats_Parse.l0.eq_2, if_neg (by omega), pparse]
 | succ f ih =>
  intro i k xs ws hf hi hk hx
  rcases Nat.lt_or_ge i L.length with hlt | hge
  ·obtain ⟨k, rfl⟩ : ∃ k', k = k' + 1 := ⟨k - 1, by omega⟩
   have hd := List.drop_eq_getElem_cons hlt
   obtain ⟨s, t, hst⟩ : ∃ s t, L.drop i = s :: t := ⟨_, _, hd⟩
   have hst2 := hst
   rw [hd] at hst2
   injection hst2 with hs1 hs2
   rw [pats_Parse.l0.eq_2, if_pos (by omega), if_pos (by omega), rd66 hlt, hs1, blank_eq, Option.bind_some, hst, pparse]
   by_cases hb : blankB s.f0 = true
   ·rw [if_pos hb, if_pos hb, w64 _ ⟨by omega, by omega⟩, show ((i : Int) + 1) = ((i + 1 : Nat) : Int) by omega, ih (i + 1) k xs ws (by omega) (by omega) (by omega) hx, hs2]
   ·rw [if_neg hb, if_neg hb]
    have hn : nb s = true := by rw [nb]; simpa using hb
    have htl : t.length + 1 = L.length - i := by
     have := congrArg List.length hst
     rw [List.length_drop, List.length_cons] at this
     omega
    obtain ⟨k', hk'⟩ : ∃ k', k = k' + 1 + (s :: t).length := ⟨k - 1 - (s :: t).length, by rw [List.length_cons]; omega⟩
    rw [hk', l1_run L hs (i : Int) xs ws (s :: t) i k' hst (by omega)]
    obtain ⟨td, tr⟩ := takeWhile_drop nb (s :: t)
    have hle := takeWhile_le nb (s :: t)
    have hpos : 1 ≤ ((s :: t).takeWhile nb).length := by rw [List.takeWhile_cons_of_pos hn, List.length_cons]; omega
    obtain ⟨wd, hwd⟩ : ∃ wd, wd = (s :: t).takeWhile nb := ⟨_, rfl⟩
    obtain ⟨rs, hrs⟩ : ∃ rs, rs = (s :: t).dropWhile nb := ⟨_, rfl⟩
    rw [List.length_cons] at hle hk'
    rw [← hwd] at td tr hle hpos ⊢
    rw [← hrs] at tr ⊢
    rw [List.length_cons]
    have e1 : (L.take (((i + wd.length : Nat) : Int)).toNat).drop ((i : Int)).toNat = wd := by
     rw [Int.toNat_natCast, Int.toNat_natCast, List.drop_take, show i + wd.length - i = wd.length by omega, hst, td]
    have e2 : L.drop (i + wd.length) = rs := by rw [← List.drop_drop, hst, tr]
    obtain ⟨k2, hk2⟩ : ∃ k2, k' + (t.length + 1 - wd.length) = k2 + 1 := ⟨k' + (t.length + 1 - wd.length) - 1, by omega⟩
    rw [hk2, pats_Parse.j2.eq_2, if_pos (by omega), if_pos (by omega), w64 _ ⟨by omega, by omega⟩, rd66 hlt, hs1]
    by_cases hm : xs.length + ws.length ≥ 256
    ·rw [if_pos (by omega), if_pos hm]
    ·rw [if_neg (by omega), if_neg hm, if_pos (by omega), if_pos (by omega), Option.bind_some, e1]
     have hone := one_f wd (by omega) (fun x hx => hr x (by
      have h1 : x ∈ s :: t := by rw [hwd] at hx; exact (List.takeWhile_sublist nb).subset hx
      rw [← hst] at h1
      exact List.mem_of_mem_drop h1)) k2 (by omega)
     rw [hone, Option.bind_some]
     dsimp only
     have hih : ∀ xs' ws', xs'.length + ws'.length ≤ 256 → pats_Parse.l0 k2 L ((i + wd.length : Nat) : Int) xs' ws' = some (pparse f rs xs' ws') := fun xs' ws' hx' => by
      rw [ih (i + wd.length) k2 xs' ws' (by omega) (by omega) (by omega) hx', e2]
     by_cases hok : (oneP wd).2.2 = true
     ·rw [if_pos hok, if_pos hok, pats_hyphened.f, Option.bind_some]
      by_cases hh : Hy.hasHyphen wd = true
      ·rw [if_pos hh, if_pos hh, api_Pattern_54.f, Option.bind_some]
       by_cases hk3 : Hy.hasKey ws (oneP wd).1 = true
       ·rw [if_pos hk3, if_pos hk3]
       ·rw [if_neg hk3, if_neg hk3, if_pos (by omega)]
        exact hih _ _ (by rw [List.length_append, List.length_cons, List.length_nil]; omega)
      ·rw [if_neg hh, if_neg hh, if_pos (by omega)]
       exact hih _ _ (by rw [List.length_append, List.length_cons, List.length_nil]; omega)
     ·rw [if_neg hok, if_neg hok]
  ·obtain ⟨k, rfl⟩ : ∃ k', k = k' + 1 := ⟨k - 1, by omega⟩
   rw [pats_Parse.l0.eq_2, if_neg (by omega), List.drop_eq_nil_of_le hge, pparse]
def signs (s : ByteArray) : List S66 := decAll (PA.bytesOf s) (PA.bytesOf s).length 0
def parseOf (s : ByteArray) : Res := if 4096 < s.size then ([], [], 24, 4096) else pparse (signs s).length (signs s) [] []
theorem parse_eq (s : ByteArray) (k : Nat) (hk : 40000 ≤ k) : pats_Parse.f k s = some (parseOf s) := by
 unfold pats_Parse.f parseOf
 by_cases h : 4096 < s.size
 ·rw [if_pos (by omega), if_pos h]
 ·rw [if_neg (by omega), if_neg h]
  have hb := isBytes_of s
  have hlen : (PA.bytesOf s).length ≤ 4096 := by rw [PA.bytesOf_length]; omega
  rw [all_eq hb (by omega) k (by omega), Option.bind_some]
  have hsl : (signs s).length ≤ 4096 := Nat.le_trans (decAll_len _ _ _) hlen
  have := parse_run (signs s) (by omega) (decAll_in hb _ _) (signs s).length 0 k [] [] (by omega) (by omega) (by omega) (by decide)
  exact this
def GoodP (p : S39) : Prop := p.f0.length ≤ 24 ∧ p.f1.length = p.f0.length + 1 ∧ (∀ x ∈ p.f1, 0 ≤ x) ∧ ∀ r ∈ p.f0, 0 ≤ r ∧ r < 16777216
theorem pparse_good (f : Nat) : ∀ (l : List S66) (xs ws : List S39), (∀ s ∈ l, 0 ≤ s.f0 ∧ s.f0 < 16777216) → (∀ p ∈ xs, GoodP p) → (∀ p ∈ ws, GoodP p) → xs.length + ws.length ≤ 256 →
  (∀ p ∈ (pparse f l xs ws).1, GoodP p) ∧ (∀ p ∈ (pparse f l xs ws).2.1, GoodP p) ∧ (pparse f l xs ws).1.length + (pparse f l xs ws).2.1.length ≤ 256 := by
 induction f with
 | zero => intro l xs ws _ hx hw hn; exact ⟨hx, hw, hn⟩
 | succ f ih =>
  intro l xs ws hl hx hw hn
  cases l with
  | nil => exact ⟨hx, hw, hn⟩
  | cons s t =>
   have hnil : (∀ p ∈ ([] : List S39), GoodP p) := fun p hp => by cases hp
   have htr : ∀ x ∈ (s :: t).dropWhile nb, 0 ≤ x.f0 ∧ x.f0 < 16777216 := fun x hx => hl x ((List.dropWhile_sublist nb).subset hx)
   rw [pparse]
   split
   ·exact ih t xs ws (fun x hx => hl x (List.mem_cons_of_mem _ hx)) hx hw hn
   ·split
    ·exact ⟨hnil, hnil, Nat.zero_le _⟩
    ·rename_i hm
     dsimp only
     split
     ·rename_i hok
      have hg : GoodP ⟨(oneP ((s :: t).takeWhile nb)).1, (oneP ((s :: t).takeWhile nb)).2.1⟩ := by
       obtain ⟨a1, a2, a3, a4⟩ := oneM_good _ _ _ _ _ _ _ (oneP ((s :: t).takeWhile nb)).1 (oneP ((s :: t).takeWhile nb)).2.1 (by rw [← hok]; rfl) rfl (by simp)
       refine ⟨a1, a2, a3, fun r hr => ?_⟩
       rcases a4 r hr with h | h
       ·cases h
       ·obtain ⟨x, hx, rfl⟩ := List.mem_map.1 h
        exact hl x ((List.takeWhile_sublist nb).subset hx)
      have happ : ∀ ys : List S39, (∀ p ∈ ys, GoodP p) → ∀ p ∈ ys ++ [⟨(oneP ((s :: t).takeWhile nb)).1, (oneP ((s :: t).takeWhile nb)).2.1⟩], GoodP p := by
       intro ys hy p hp
       rcases List.mem_append.1 hp with h | h
       ·exact hy p h
       ·rw [List.mem_singleton.1 h]; exact hg
      split
      ·split
       ·exact ⟨hnil, hnil, Nat.zero_le _⟩
       ·exact ih _ _ _ htr hx (happ ws hw) (by rw [List.length_append, List.length_cons, List.length_nil]; omega)
      ·exact ih _ _ _ htr (happ xs hx) hw (by rw [List.length_append, List.length_cons, List.length_nil]; omega)
     ·exact ⟨hnil, hnil, Nat.zero_le _⟩
theorem parseOf_good (s : ByteArray) : (∀ p ∈ (parseOf s).1, GoodP p) ∧ (∀ p ∈ (parseOf s).2.1, GoodP p) ∧ (parseOf s).1.length + (parseOf s).2.1.length ≤ 256 := by
 unfold parseOf
 split
 ·exact ⟨fun p hp => (by cases hp), fun p hp => (by cases hp), Nat.zero_le _⟩
 ·exact pparse_good _ _ _ _ (decAll_in (isBytes_of s) _ _) (fun p hp => by cases hp) (fun p hp => by cases hp) (Nat.zero_le _)
theorem parseOf_fit (s : ByteArray) : Tr.Fit (parseOf s).1 := by
 obtain ⟨h1, _, h3⟩ := parseOf_good s
 refine ⟨by omega, fun p hp => ?_⟩
 obtain ⟨a1, a2, a3, a4⟩ := h1 p hp
 exact ⟨by omega, by omega, fun r hr => by have := a4 r hr; exact ⟨by omega, by omega⟩, a3⟩
theorem parseOf_told (s : ByteArray) : ∀ p ∈ (parseOf s).2.1, p.f1.length = p.f0.length + 1 := fun p hp => ((parseOf_good s).2.1 p hp).2.1
end Go.Proofs.Ytoefjhdcipgacaa.Dec
end
section
namespace Go.Proofs.Ytoefjhdcipgacaa.Dec
open Go.RowKit Go.Proofs.YtoefjhdcipgacaaW.PrintWords Go.Proofs.YtoefjhdcipgacaaW.PrintLast Go.Proofs.YtoefjhdcipgacaaW.PrintMore
open Go.Proofs.Ytoefjhdcipgacaa.PA
def Eqv (r s : List Int × List Int × Bool) : Prop := r.2.2 = s.2.2 ∧ (s.2.2 = true → r = s)
theorem Eqv.refl (r : List Int × List Int × Bool) : Eqv r r := ⟨rfl, fun _ => rfl⟩
theorem Eqv.no (xs vs ys ws : List Int) : Eqv (xs, vs, false) (ys, ws, false) := ⟨rfl, fun h => by cases h⟩
def valB (told : Bool) (c : Int) : Bool := if told = true then decide (c = 45) else decide (48 ≤ c ∧ c ≤ 57)
theorem oneM_set (told : Bool) (n : Nat) (c : Int) (rest : List Int) (m : Int) (xs vs : List Int) (h : valB told c = false) : oneM told n (c :: rest) false m xs vs = oneM told n (c :: rest) true m xs vs := by
 rw [oneM, oneM]
 by_cases h1 : c = 65533
 ·rw [if_pos h1, if_pos h1]
 rw [if_neg h1, if_neg h1]
 by_cases h2 : c = 45 ∨ (48 ≤ c ∧ c ≤ 57)
 ·rw [if_pos h2, if_pos h2, if_pos (Or.inl rfl)]
  have : told ≠ (c == 45) := by
   cases told with
   | true =>
    have : ¬ c = 45 := by simpa [valB] using h
    have : (c == 45) = false := by simpa using this
    rw [this]; decide
   | false =>
    have h3 : ¬ (48 ≤ c ∧ c ≤ 57) := by simpa [valB] using h
    have : (c == 45) = true := by simpa using h2.resolve_right h3
    rw [this]; decide
  rw [if_pos (Or.inr (Or.inl this))]
 ·rw [if_neg h2, if_neg h2]
section
variable (W : List Int) (told : Bool)
theorem rp_l0 (k : Nat) (m i : Int) (xs vs : List Int) : stanzaref07_pattern.l0 (k + 1) W told m i xs vs = if i < (W.length : Int) then (if 0 ≤ i then (if told = true then (stanzaref07_pattern.j1 k W told m i 0 (rd W i) false xs vs) else (if (rd W i) ≥ 48 then (stanzaref07_pattern.j1 k W told m i 0 (rd W i) (decide ((rd W i) ≤ 57)) xs vs) else (stanzaref07_pattern.j1 k W told m i 0 (rd W i) false xs vs))) else (none)) else (stanzaref07_pattern.j3 k W told m i 0 xs vs) := rfl
theorem rp_j1 (k : Nat) (m i v c : Int) (b : Bool) (xs vs : List Int) : stanzaref07_pattern.j1 (k + 1) W told m i v c b xs vs = if b = true then (stanzaref07_pattern.j3 k W told m (wrap64 (i + 1)) ((wrap32 (c - 48)) % 256) xs vs) else (if told = true then (stanzaref07_pattern.j2 k W told m i v (c == 45) xs vs) else (stanzaref07_pattern.j2 k W told m i v false xs vs)) := rfl
theorem rp_j2 (k : Nat) (m i v : Int) (b : Bool) (xs vs : List Int) : stanzaref07_pattern.j2 (k + 1) W told m i v b xs vs = if b = true then (if i = 0 then (some (xs, vs, false)) else (if i = (wrap64 ((W.length : Int) - 1)) then (some (xs, vs, false)) else (stanzaref07_pattern.j3 k W told m (wrap64 (i + 1)) 1 xs vs))) else (stanzaref07_pattern.j3 k W told m i v xs vs) := rfl
theorem rp_j3 (k : Nat) (m i v : Int) (xs vs : List Int) : stanzaref07_pattern.j3 (k + 1) W told m i v xs vs = if vs.length < 140737488355328 then ((some (vs ++ [v] : List Int)).bind fun y281 => (if i = (W.length : Int) then (if m > 0 then (some (xs, y281, decide ((xs.length : Int) ≤ 24))) else (some (xs, y281, false))) else (if 0 ≤ i then (if i < (W.length : Int) then (if (rd W i) = 45 then (stanzaref07_pattern.j4 k W told m i (rd W i) true xs y281) else (if (rd W i) ≥ 48 then (if (rd W i) ≤ 57 then (stanzaref07_pattern.j4 k W told m i (rd W i) true xs y281) else (stanzaref07_pattern.j4 k W told m i (rd W i) ((rd W i) == 65533) xs y281)) else (stanzaref07_pattern.j4 k W told m i (rd W i) ((rd W i) == 65533) xs y281))) else (none)) else (none)))) else (none) := rfl
theorem rp_j4 (k : Nat) (m i c : Int) (b : Bool) (xs vs : List Int) : stanzaref07_pattern.j4 (k + 1) W told m i c b xs vs = if b = true then (some (xs, vs, false)) else (if c = 46 then (if told = true then (some (xs, vs, false)) else (if i = 0 then (if xs.length < 35184372088832 then (stanzaref07_pattern.l0 k W told m (wrap64 (i + 1)) (xs ++ [c]) vs) else (none)) else (if i = (wrap64 ((W.length : Int) - 1)) then (if xs.length < 35184372088832 then (stanzaref07_pattern.l0 k W told m (wrap64 (i + 1)) (xs ++ [c]) vs) else (none)) else (some (xs, vs, false))))) else (if xs.length < 35184372088832 then (stanzaref07_pattern.l0 k W told (wrap64 (m + 1)) (wrap64 (i + 1)) (xs ++ [c]) vs) else (none))) := rfl
end
theorem drop_rd {W : List Int} {i : Nat} (hi : i < W.length) : W.drop i = rd W (i : Int) :: W.drop (i + 1) := by
 rw [List.drop_eq_getElem_cons hi, rd, Int.toNat_natCast, List.getD_eq_getElem?_getD, List.getElem?_eq_getElem hi, Option.getD_some]
def Beh (W : List Int) (told : Bool) (i : Nat) : Prop := ∀ (m : Int) (xs vs : List Int) (v : Int) (k : Nat), vs.length = xs.length → xs.length ≤ i → 0 ≤ m → m ≤ i → (told = true → xs = [] → i = 0) → 5 * (W.length - i) + 5 ≤ k →
 ∃ r, stanzaref07_pattern.j3 k W told m (i : Int) v xs vs = some r ∧ Eqv r (oneM told W.length (W.drop i) true m xs (vs ++ [v]))
theorem pat_A (W : List Int) (told : Bool) (hs : W.length ≤ 100000) (hr : ∀ r ∈ W, 0 ≤ r ∧ r < 16777216) (i : Nat) (hi : i ≤ W.length) (ih : ∀ j, i ≤ j → j ≤ W.length → Beh W told j) (m : Int) (xs vs : List Int) (k : Nat)
  (hv : vs.length = xs.length) (hx : xs.length ≤ i) (hm : 0 ≤ m) (hm1 : m ≤ i) (ht : told = true → xs = [] → i = 0) (hk : 5 * (W.length - i) + 8 ≤ k) :
  ∃ r, stanzaref07_pattern.l0 k W told m (i : Int) xs vs = some r ∧ Eqv r (oneM told W.length (W.drop i) false m xs (vs ++ [0])) := by
 obtain ⟨k, rfl⟩ : ∃ k', k = k' + 1 + 1 + 1 := ⟨k - 3, by omega⟩
 rw [rp_l0]
 rcases Nat.lt_or_ge i W.length with h | h
 ·have hd := drop_rd h
  obtain ⟨c, hc⟩ : ∃ c, c = rd W (i : Int) := ⟨_, rfl⟩
  have hcr : 0 ≤ c ∧ c < 16777216 := hr c (by
   have : c ∈ W.drop i := by rw [hd, hc]; exact List.mem_cons_self ..
   exact List.mem_of_mem_drop this)
  rw [if_pos (by omega), if_pos (by omega), ← hc]
  rw [← hc] at hd
  have h0 := ih i (Nat.le_refl _) hi
  have h1 := ih (i + 1) (by omega) (by omega)
  have w1 : wrap64 ((i : Int) + 1) = ((i + 1 : Nat) : Int) := by rw [w64 _ ⟨by omega, by omega⟩]; rfl
  have wn : wrap64 ((W.length : Int) - 1) = (W.length : Int) - 1 := w64 _ ⟨by omega, by omega⟩
  by_cases hval : valB told c = true
  ·-- a value
   have hset : ∀ v, (vs ++ [0]).set xs.length v = vs ++ [v] := fun v => by rw [← hv]; simp
   cases told with
   | true =>
    have hc45 : c = 45 := by simpa [valB] using hval
    rw [if_pos rfl, rp_j1, if_neg (by decide), if_pos rfl, rp_j2, if_pos (by simpa using hc45), hd, oneM, if_neg (show ¬ c = 65533 by omega), if_pos (show c = 45 ∨ (48 ≤ c ∧ c ≤ 57) from Or.inl hc45)]
    by_cases hi0 : i = 0
    ·rw [if_pos (show (i : Int) = 0 by omega), if_pos (show false = true ∨ true ≠ (c == 45) ∨ (true = true ∧ (xs.length = 0 ∨ W.drop (i + 1) = [])) from Or.inr (Or.inr ⟨rfl, Or.inl (by omega)⟩))]
     exact ⟨_, rfl, Eqv.no ..⟩
    ·rw [if_neg (show ¬ (i : Int) = 0 by omega), wn]
     have hxn : xs ≠ [] := fun h => hi0 (ht rfl h)
     have hxl : xs.length ≠ 0 := fun h => hxn (List.eq_nil_of_length_eq_zero h)
     have hrest : W.drop (i + 1) = [] ↔ (i : Int) = (W.length : Int) - 1 := by
      rw [← List.length_eq_zero_iff, List.length_drop]; omega
     by_cases hl : (i : Int) = (W.length : Int) - 1
     ·rw [if_pos hl, if_pos (show false = true ∨ true ≠ (c == 45) ∨ (true = true ∧ (xs.length = 0 ∨ W.drop (i + 1) = [])) from Or.inr (Or.inr ⟨rfl, Or.inr (hrest.2 hl)⟩))]
      exact ⟨_, rfl, Eqv.no ..⟩
     ·have no : ¬ (false = true ∨ true ≠ (c == 45) ∨ (true = true ∧ (xs.length = 0 ∨ W.drop (i + 1) = []))) := by
       rintro (h | h | ⟨_, h | h⟩)
       ·cases h
       ·exact h (by simpa using hc45)
       ·exact hxl h
       ·exact hl (hrest.1 h)
      rw [if_neg hl, if_neg no, w1, if_pos rfl, hset]
      exact h1 m xs vs 1 k hv (by omega) hm (by omega) (fun _ h => absurd h hxn) (by omega)
   | false =>
    have hcd : 48 ≤ c ∧ c ≤ 57 := by simpa [valB] using hval
    rw [if_neg (by decide), if_pos (by omega), decide_eq_true hcd.2, rp_j1, if_pos rfl, hd, oneM, if_neg (show ¬ c = 65533 by omega), if_pos (show c = 45 ∨ (48 ≤ c ∧ c ≤ 57) from Or.inr hcd)]
    have no : ¬ (false = true ∨ false ≠ (c == 45) ∨ (false = true ∧ (xs.length = 0 ∨ W.drop (i + 1) = []))) := by
     rintro (h | h | ⟨h, _⟩)
     ·cases h
     ·exact h (by simp; omega)
     ·cases h
    rw [if_neg no, w1, if_neg (by decide), hset, show wrap32 (c - 48) % 256 = c - 48 by rw [w32 _ ⟨by omega, by omega⟩]; omega]
    exact h1 m xs vs (c - 48) (k + 1) hv (by omega) hm (by omega) (fun h => by cases h) (by omega)
  ·have hvf : valB told c = false := by simpa using hval
   rw [hd, oneM_set _ _ _ _ _ _ _ hvf, ← hd]
   have fin : ∀ k', k ≤ k' → ∃ r, stanzaref07_pattern.j3 k' W told m (i : Int) 0 xs vs = some r ∧ Eqv r (oneM told W.length (W.drop i) true m xs (vs ++ [0])) := fun k' hk' => h0 m xs vs 0 k' hv hx hm hm1 ht (by omega)
   cases told with
   | true =>
    have hc45 : ¬ c = 45 := by simpa [valB] using hvf
    rw [if_pos rfl, rp_j1, if_neg (by decide), if_pos rfl, rp_j2, if_neg (by simpa using hc45)]
    exact fin k (Nat.le_refl _)
   | false =>
    have hcd : ¬ (48 ≤ c ∧ c ≤ 57) := by simpa [valB] using hvf
    rw [if_neg (by decide)]
    by_cases h48 : c ≥ 48
    ·rw [if_pos h48, decide_eq_false (by omega), rp_j1, if_neg (by decide), if_neg (by decide), rp_j2, if_neg (by decide)]
     exact fin k (Nat.le_refl _)
    ·rw [if_neg h48, rp_j1, if_neg (by decide), if_neg (by decide), rp_j2, if_neg (by decide)]
     exact fin k (Nat.le_refl _)
 ·have hie : i = W.length := by omega
  rw [if_neg (by omega)]
  have h0 := ih i (Nat.le_refl _) hi m xs vs 0 (k + 1 + 1) hv hx hm hm1 ht (by omega)
  rw [List.drop_eq_nil_of_le h] at h0 ⊢
  exact h0
theorem pat_B (W : List Int) (told : Bool) (hs : W.length ≤ 100000) (hr : ∀ r ∈ W, 0 ≤ r ∧ r < 16777216) (n : Nat) : ∀ i, W.length - i ≤ n → i ≤ W.length → Beh W told i := by
 induction n with
 | zero =>
  intro i hn hi m xs vs v k hv hx hm hm1 ht hk
  obtain ⟨k, rfl⟩ : ∃ k', k = k' + 1 := ⟨k - 1, by omega⟩
  rw [rp_j3, if_pos (by omega), Option.bind_some, if_pos (by omega), List.drop_eq_nil_of_le (by omega), oneM]
  by_cases h : m > 0
  ·rw [if_pos h, decide_eq_true h, Bool.true_and]; exact ⟨_, rfl, Eqv.refl _⟩
  ·rw [if_neg h, decide_eq_false h, Bool.false_and]; exact ⟨_, rfl, Eqv.refl _⟩
 | succ n ih =>
  intro i hn hi m xs vs v k hv hx hm hm1 ht hk
  rcases Nat.lt_or_ge i W.length with h | h
  case inr =>
   obtain ⟨k, rfl⟩ : ∃ k', k = k' + 1 := ⟨k - 1, by omega⟩
   rw [rp_j3, if_pos (by omega), Option.bind_some, if_pos (by omega), List.drop_eq_nil_of_le (by omega), oneM]
   by_cases h : m > 0
   ·rw [if_pos h, decide_eq_true h, Bool.true_and]; exact ⟨_, rfl, Eqv.refl _⟩
   ·rw [if_neg h, decide_eq_false h, Bool.false_and]; exact ⟨_, rfl, Eqv.refl _⟩
  case inl =>
   obtain ⟨k, rfl⟩ : ∃ k', k = k' + 1 + 1 := ⟨k - 2, by omega⟩
   have hd := drop_rd h
   obtain ⟨c, hc⟩ : ∃ c, c = rd W (i : Int) := ⟨_, rfl⟩
   have hcr : 0 ≤ c ∧ c < 16777216 := hr c (by
    have : c ∈ W.drop i := by rw [hd, hc]; exact List.mem_cons_self ..
    exact List.mem_of_mem_drop this)
   rw [rp_j3, if_pos (by omega), Option.bind_some, if_neg (by omega), if_pos (by omega), if_pos (by omega), ← hc]
   rw [← hc] at hd
   rw [hd, oneM]
   have bad : ∀ ys ws, Eqv (xs, vs ++ [v], false) (ys, ws, false) := fun ys ws => Eqv.no ..
   have hlen1 : (vs ++ [v]).length = (xs ++ [c]).length := by simp [hv]
   have goA : ∀ m', 0 ≤ m' → m' ≤ ((i + 1 : Nat) : Int) → ∃ r, stanzaref07_pattern.l0 k W told m' ((i + 1 : Nat) : Int) (xs ++ [c]) (vs ++ [v]) = some r ∧ Eqv r (oneM told W.length (W.drop (i + 1)) false m' (xs ++ [c]) (vs ++ [v] ++ [0])) := fun m' a1 a2 =>
    pat_A W told hs hr (i + 1) (by omega) (fun j hj hjl => ih j (by omega) hjl) m' (xs ++ [c]) (vs ++ [v]) k hlen1 (by rw [List.length_append, List.length_singleton]; omega) a1 a2 (fun _ h => by simp at h) (by omega)
   have WM : Aside0 (wrap64 (m + 1) = m + 1) := ⟨w64 _ ⟨by omega, by omega⟩⟩
   have W1 : Aside0 (wrap64 ((i : Int) + 1) = ((i + 1 : Nat) : Int)) := ⟨by rw [w64 _ ⟨by omega, by omega⟩]; rfl⟩
   have WN : Aside0 (wrap64 ((W.length : Int) - 1) = (W.length : Int) - 1) := ⟨w64 _ ⟨by omega, by omega⟩⟩
   by_cases c1 : c = 65533
   ·have hf : (c == 65533) = true := by simpa using c1
    rw [if_neg (show ¬ c = 45 by omega), if_pos (show c ≥ 48 by omega), if_neg (show ¬ c ≤ 57 by omega), hf, rp_j4, if_pos rfl, if_pos c1]
    exact ⟨_, rfl, bad _ _⟩
   rw [if_neg c1]
   by_cases c2 : c = 45 ∨ (48 ≤ c ∧ c ≤ 57)
   ·rw [if_pos c2, if_pos (Or.inl rfl)]
    rcases c2 with c2 | c2
    ·rw [if_pos c2, rp_j4, if_pos rfl]; exact ⟨_, rfl, bad _ _⟩
    ·rw [if_neg (by omega), if_pos (by omega), if_pos (by omega), rp_j4, if_pos rfl]; exact ⟨_, rfl, bad _ _⟩
   ·rw [if_neg c2, if_neg (fun h => c2 (Or.inl h))]
    have e : (if c ≥ 48 then (if c ≤ 57 then (stanzaref07_pattern.j4 (k + 1) W told m (i : Int) c true xs (vs ++ [v])) else (stanzaref07_pattern.j4 (k + 1) W told m (i : Int) c (c == 65533) xs (vs ++ [v]))) else (stanzaref07_pattern.j4 (k + 1) W told m (i : Int) c (c == 65533) xs (vs ++ [v]))) = stanzaref07_pattern.j4 (k + 1) W told m (i : Int) c false xs (vs ++ [v]) := by
     have hf : (c == 65533) = false := by simpa using c1
     rw [hf]
     by_cases a : c ≥ 48
     ·rw [if_pos a, if_neg (fun b => c2 (Or.inr ⟨a, b⟩))]
     ·rw [if_neg a]
    rw [e, rp_j4, if_neg (by decide)]
    by_cases c3 : c = 46
    ·rw [if_pos c3, if_pos c3]
     cases told with
     | true => rw [if_pos rfl, if_pos (Or.inl rfl)]; exact ⟨_, rfl, bad _ _⟩
     | false =>
      rw [if_neg (by decide), WN.out]
      have hrest : W.drop (i + 1) = [] ↔ (i : Int) = (W.length : Int) - 1 := by
       rw [← List.length_eq_zero_iff, List.length_drop]; omega
      have hrl : (W.drop (i + 1)).length + 1 = W.length ↔ i = 0 := by rw [List.length_drop]; omega
      have gA := goA m hm (by omega)
      rw [c3] at gA
      by_cases h2 : i = 0
      ·have no : ¬ (false = true ∨ ((W.drop (i + 1)).length + 1 ≠ W.length ∧ W.drop (i + 1) ≠ [])) := by
        rintro (h | h)
        ·cases h
        ·exact h.1 (hrl.2 h2)
       rw [if_pos (by omega), if_pos (by omega), W1.out, if_neg no, c3]
       exact gA
      ·rw [if_neg (show ¬ (i : Int) = 0 by omega)]
       by_cases h3 : (i : Int) = (W.length : Int) - 1
       ·have no : ¬ (false = true ∨ ((W.drop (i + 1)).length + 1 ≠ W.length ∧ W.drop (i + 1) ≠ [])) := by
         rintro (h | h)
         ·cases h
         ·exact h.2 (hrest.2 h3)
        rw [if_pos h3, if_pos (by omega), W1.out, if_neg no, c3]
        exact gA
       ·rw [if_neg h3, if_pos (Or.inr ⟨fun h => h2 (hrl.1 h), fun h => h3 (hrest.1 h)⟩)]
        exact ⟨_, rfl, bad _ _⟩
    ·rw [if_neg c3, if_neg c3, if_pos (by omega), W1.out, WM.out]
     exact goA (m + 1) (by omega) (by omega)
theorem rpat_eq (W : List Int) (told : Bool) (hs : W.length ≤ 100000) (hr : ∀ r ∈ W, 0 ≤ r ∧ r < 16777216) (k : Nat) (hk : 5 * W.length + 8 ≤ k) : ∃ r, stanzaref07_pattern.f k W told = some r ∧ Eqv r (oneM told W.length W false 0 [] [0]) := by
 have := pat_A W told hs hr 0 (Nat.zero_le _) (fun j _ hj => pat_B W told hs hr W.length j (by omega) hj) 0 [] [] k rfl (Nat.le_refl _) (Int.le_refl _) (Int.le_refl _) (fun _ _ => rfl) (by omega)
 exact this
end Go.Proofs.Ytoefjhdcipgacaa.Dec
end
section
namespace Go.Proofs.Ytoefjhdcipgacaa.Dec
open Go.RowKit Go.Proofs.YtoefjhdcipgacaaW.PrintWords Go.Proofs.YtoefjhdcipgacaaW.PrintLast Go.Proofs.YtoefjhdcipgacaaW.PrintMore
open Go.Proofs.Ytoefjhdcipgacaa.PA
theorem ro_l0 (k : Nat) (x0 : List Int) (x1 x5 : Int) : stanzaref01_One.l0 (k + 1) x0 x1 x5 = if x5 < 4 then (if x5 < (wrap64 ((x0.length : Int) - x1)) then (if 0 ≤ x1 then (if x1 ≤ (wrap64 ((wrap64 (x1 + x5)) + 1)) then (if (wrap64 ((wrap64 (x1 + x5)) + 1)) ≤ (x0.length : Int) then ((stanzaref01_Begins.f k ((x0.take ((wrap64 ((wrap64 (x1 + x5)) + 1)) : Int).toNat).drop (x1 : Int).toNat)).bind fun t262 => (if t262 = true then (stanzaref01_One.l0 k x0 x1 (wrap64 (x5 + 1))) else (stanzaref01_One.j2 k x0 x1 x5))) else (none)) else (none)) else (none)) else (stanzaref01_One.j2 k x0 x1 x5)) else (stanzaref01_One.j2 k x0 x1 x5) := rfl
theorem ro_j2 (k : Nat) (x0 : List Int) (x1 x5 : Int) : stanzaref01_One.j2 (k + 1) x0 x1 x5 = if x5 = 0 then (some (65533, x1, 1)) else (if 0 ≤ x1 then (if x1 < (x0.length : Int) then ((stanzaref01_length.f k (rd x0 x1)).bind fun t264 => (if x5 < t264 then (some (65533, x1, x5)) else ((some (([0, 127, 31, 15, 7] : List Int) : List Int)).bind fun y266 => (if 0 ≤ x5 then (if x5 < (y266.length : Int) then (stanzaref01_One.l1 k x0 x1 x5 (Go.bits .and .i32 (wrap32 (rd x0 x1)) (rd y266 x5)) 1) else (none)) else (none))))) else (none)) else (none)) := rfl
theorem ro_l1 (k : Nat) (x0 : List Int) (x1 x5 x6 x8 : Int) : stanzaref01_One.l1 (k + 1) x0 x1 x5 x6 x8 = if x8 < x5 then (if 0 ≤ (wrap64 (x1 + x8)) then (if (wrap64 (x1 + x8)) < (x0.length : Int) then (stanzaref01_One.l1 k x0 x1 x5 (wrap32 ((wrap32 ((wrap32 (x6 * 64)) + (wrap32 (rd x0 (wrap64 (x1 + x8)))))) - 128)) (wrap64 (x8 + 1))) else (none)) else (none)) else (some (x6, x1, x5)) := rfl
section
variable {l : List Int} {a n k : Nat}
open Classical in
theorem ro_step (hs : l.length ≤ 100000) (h4 : n < 4) (h : a + n < l.length) (hb : begN l a (n + 1)) : stanzaref01_One.l0 (k + 13) l (a : Int) (n : Int) = stanzaref01_One.l0 (k + 12) l (a : Int) ((n + 1 : Nat) : Int) := by
 rw [ro_l0, if_pos (by omega), w64 ((l.length : Int) - a) ⟨by omega, by omega⟩, w64 ((a : Int) + n) ⟨by omega, by omega⟩, w64 ((a : Int) + n + 1) ⟨by omega, by omega⟩, w64 ((n : Int) + 1) ⟨by omega, by omega⟩,
  if_pos (by omega), if_pos (by omega), if_pos (by omega), if_pos (by omega)]
 rw [show (((a : Int) + n + 1).toNat) = a + (n + 1) by omega, Int.toNat_natCast, beg_cut l a (n + 1) (by omega) (by omega) (by omega), decide_eq_true hb, Option.bind_some, if_pos rfl]
 rfl
open Classical in
theorem ro_stop (hs : l.length ≤ 100000) (ha : a < l.length) (h : n < 4 → a + n < l.length → ¬ begN l a (n + 1)) : stanzaref01_One.l0 (k + 13) l (a : Int) (n : Int) = stanzaref01_One.j2 (k + 12) l (a : Int) (n : Int) := by
 by_cases h4 : n < 4
 ·by_cases h5 : a + n < l.length
  ·rw [ro_l0, if_pos (by omega), w64 ((l.length : Int) - a) ⟨by omega, by omega⟩, w64 ((a : Int) + n) ⟨by omega, by omega⟩, w64 ((a : Int) + n + 1) ⟨by omega, by omega⟩, w64 ((n : Int) + 1) ⟨by omega, by omega⟩,
    if_pos (by omega), if_pos (by omega), if_pos (by omega), if_pos (by omega)]
   rw [show (((a : Int) + n + 1).toNat) = a + (n + 1) by omega, Int.toNat_natCast, beg_cut l a (n + 1) (by omega) (by omega) (by omega), decide_eq_false (h h4 h5), Option.bind_some, if_neg (by decide)]
  ·rw [ro_l0, if_pos (by omega), w64 ((l.length : Int) - a) ⟨by omega, by omega⟩, if_neg (by omega)]
 ·rw [ro_l0, if_neg (by omega)]
theorem ro_bad (ha : a < l.length) (h : (n : Int) < lenM (rd l (a : Int))) (hn : 1 ≤ n) : stanzaref01_One.j2 (k + 12) l (a : Int) (n : Int) = some (65533, (a : Int), (n : Int)) := by
 rw [ro_j2, if_neg (by omega), if_pos (by omega), if_pos (by omega), show k + 11 = k + 9 + 2 from rfl, len_eq, Option.bind_some, if_pos h]
theorem ro_none : stanzaref01_One.j2 (k + 12) l (a : Int) ((0 : Nat) : Int) = some (65533, (a : Int), 1) := by
 rw [ro_j2, if_pos (show ((0 : Nat) : Int) = 0 from rfl)]
theorem ro_good (ha : a < l.length) (h : lenM (rd l (a : Int)) ≤ (n : Int)) (hn : 1 ≤ n) (h4 : n ≤ 4) : stanzaref01_One.j2 (k + 12) l (a : Int) (n : Int) = stanzaref01_One.l1 (k + 11) l (a : Int) (n : Int) (Go.bits .and .i32 (wrap32 (rd l (a : Int))) (rd [0, 127, 31, 15, 7] (n : Int))) 1 := by
 rw [ro_j2, if_neg (by omega), if_pos (by omega), if_pos (by omega), show k + 11 = k + 9 + 2 from rfl, len_eq, Option.bind_some, if_neg (by omega), Option.bind_some, if_pos (by omega), if_pos (by simp only [List.length_cons, List.length_nil]; omega)]
theorem ro_end (x1 x5 x6 x8 : Int) (h : x5 ≤ x8) : stanzaref01_One.l1 (k + 1) l x1 x5 x6 x8 = some (x6, x1, x5) := by
 rw [ro_l1, if_neg (by omega)]
theorem ro_go {j : Nat} (hl : IsBytes l) (hs : l.length ≤ 100000) (x6 : Int) (h : j < n) (hj : j ≤ 4) (hj1 : 1 ≤ j) (hin : a + j < l.length) (h6 : 0 ≤ x6 ∧ x6 < 1048576) : stanzaref01_One.l1 (k + 1) l (a : Int) (n : Int) x6 (j : Int) = stanzaref01_One.l1 k l (a : Int) (n : Int) (x6 * 64 + (rd l ((a : Int) + (j : Int)) - 128)) ((j + 1 : Nat) : Int) := by
 have hr := hl.rd ((a : Int) + (j : Int))
 rw [ro_l1, if_pos (by omega), w64 ((a : Int) + j) ⟨by omega, by omega⟩, w64 ((j : Int) + 1) ⟨by omega, by omega⟩, if_pos (by omega), if_pos (by omega)]
 rw [w32 (x6 * 64) ⟨by omega, by omega⟩, w32 (rd l ((a : Int) + j)) ⟨by omega, by omega⟩, w32 (x6 * 64 + rd l ((a : Int) + j)) ⟨by omega, by omega⟩, w32 (x6 * 64 + rd l ((a : Int) + j) - 128) ⟨by omega, by omega⟩]
 rw [show x6 * 64 + rd l ((a : Int) + j) - 128 = x6 * 64 + (rd l ((a : Int) + j) - 128) by omega]
 rfl
end
theorem lenM_of (c : Int) (h1 : ¬ c < 128) (h2 : ¬ (c < 194 ∨ 244 < c)) : lenM c = if c < 224 then 2 else if c < 240 then 3 else 4 := by
 unfold lenM; rw [if_neg h1, if_neg h2]
theorem begN_1 (l : List Int) (a : Nat) (h : 1 ≤ lenM (rd l (a : Int))) : begN l a 1 := ⟨by omega, fun j _ _ => by omega, fun h => by omega⟩
theorem begN_2 (l : List Int) (a : Nat) (h : 2 ≤ lenM (rd l (a : Int))) (hb : inB l ((a : Int) + 1) (lo (rd l (a : Int))) (hi (rd l (a : Int)))) : begN l a 2 := by
 have hlo := lo_ge (rd l (a : Int))
 have hhi := hi_le (rd l (a : Int))
 refine ⟨by omega, fun j h1 h2 => ?_, fun _ => ?_⟩
 ·rw [show j = 1 by omega, show ((a + 1 : Nat) : Int) = (a : Int) + 1 by omega]
  have := hb.2; omega
 ·rw [show ((a + 1 : Nat) : Int) = (a : Int) + 1 by omega]; exact hb.2
theorem begN_up (l : List Int) (a n : Nat) (hn : 2 ≤ n) (h : ((n + 1 : Nat) : Int) ≤ lenM (rd l (a : Int))) (hb : begN l a n) (hi : inB l ((a : Int) + (n : Int)) 128 191) : begN l a (n + 1) := by
 refine ⟨h, fun j h1 h2 => ?_, fun _ => hb.2.2 hn⟩
 rcases Nat.lt_or_ge j n with h3 | h3
 ·exact hb.2.1 j h1 h3
 ·rw [show j = n by omega, show ((a + n : Nat) : Int) = (a : Int) + (n : Int) by omega]; exact hi.2
theorem begN_in {l : List Int} {a n : Nat} (h : begN l a (n + 1)) (hn : 1 ≤ n) (hin : a + n < l.length) : inB l ((a : Int) + (n : Int)) 128 191 := by
 refine ⟨by omega, ?_⟩
 have := h.2.1 n hn (by omega)
 rwa [show ((a + n : Nat) : Int) = (a : Int) + (n : Int) by omega] at this
theorem begN_in2 {l : List Int} {a : Nat} (h : begN l a 2) (hin : a + 1 < l.length) : inB l ((a : Int) + 1) (lo (rd l (a : Int))) (hi (rd l (a : Int))) := by
 refine ⟨by omega, ?_⟩
 have := h.2.2 (by omega)
 rwa [show ((a + 1 : Nat) : Int) = (a : Int) + 1 by omega] at this
theorem rone_nat {l : List Int} (hl : IsBytes l) (a : Nat) (h1 : a < l.length) (hs : l.length ≤ 100000) (k : Nat) : stanzaref01_One.f (k + 20) l (a : Int) = some ((dec l (a : Int)).1, (a : Int), (dec l (a : Int)).2) := by
 have hr := hl.rd (a : Int)
 have hw : wrap32 (rd l (a : Int)) = rd l (a : Int) := w32 _ ⟨by omega, by omega⟩
 have e : stanzaref01_One.f (k + 20) l (a : Int) = stanzaref01_One.l0 (k + 6 + 13) l (a : Int) ((0 : Nat) : Int) := by
  have h0 : ∀ b : Bool, stanzaref01_One.j0 (k + 20) l (a : Int) b = if b = true then (some (0, 0, 0)) else (stanzaref01_One.l0 (k + 19) l (a : Int) 0) := fun _ => rfl
  unfold stanzaref01_One.f
  rw [if_neg (by omega), decide_eq_false (by omega), h0, if_neg (by decide)]
  rfl
 rw [e]
 have hd := head_bd (rd l (a : Int))
 have hlo := lo_ge (rd l (a : Int))
 have hhi := hi_le (rd l (a : Int))
 unfold dec
 dsimp only
 by_cases c1 : rd l (a : Int) < 128
 ·have hm : lenM (rd l (a : Int)) = 1 := by unfold lenM; rw [if_pos c1]
  rw [ro_step hs (by decide) (by omega) (begN_1 l a (by omega)), ro_stop (k := k + 5) hs h1 (fun _ _ hb => by have := hb.1; omega), ro_good h1 (by omega) (by omega) (by omega), ro_end _ _ _ _ (by omega), if_pos c1, hw]
  rw [show rd [0, 127, 31, 15, 7] ((0 + 1 : Nat) : Int) = (2 : Int) ^ 7 - 1 by decide, and_mask _ 7 (by decide) hr.1 hr.2, show rd l (a : Int) % 2 ^ 7 = rd l (a : Int) by omega]
  rfl
 by_cases c2 : rd l (a : Int) < 194 ∨ 244 < rd l (a : Int)
 ·have hm : lenM (rd l (a : Int)) = 0 := by unfold lenM; rw [if_neg c1, if_pos c2]
  rw [ro_stop hs h1 (fun _ _ hb => by have := hb.1; omega), ro_none, if_neg c1, if_pos c2]
 rw [if_neg c1, if_neg c2]
 have hm := lenM_of _ c1 c2
 have hm2 : 2 ≤ lenM (rd l (a : Int)) := by rw [hm]; split <;> (try split) <;> decide
 rw [ro_step hs (by decide) (by omega) (begN_1 l a (by omega)), show k + 6 + 12 = k + 5 + 13 from rfl]
 by_cases b1 : inB l ((a : Int) + 1) (lo (rd l (a : Int))) (hi (rd l (a : Int)))
 case neg =>
  rw [if_pos b1, ro_stop hs h1 (fun _ h hb => b1 (begN_in2 hb (by omega))), ro_bad h1 (by omega) (by omega)]
  rfl
 rw [if_neg (not_not_intro b1)]
 have n2 := begN_2 l a hm2 b1
 have g1 := hl.rd ((a : Int) + 1)
 rw [ro_step hs (by decide) (by have := b1.1; omega) n2, show k + 5 + 12 = k + 4 + 13 from rfl]
 by_cases c3 : rd l (a : Int) < 224
 ·rw [if_pos c3] at hm
  rw [ro_stop hs h1 (fun _ _ hb => by have := hb.1; omega), ro_good h1 (by omega) (by omega) (by omega), if_pos c3, hw]
  rw [show rd [0, 127, 31, 15, 7] ((0 + 1 + 1 : Nat) : Int) = (2 : Int) ^ 5 - 1 by decide, and_mask _ 5 (by decide) hr.1 hr.2]
  have he : head (rd l (a : Int)) = rd l (a : Int) % 2 ^ 5 := by unfold head; rw [if_pos c3]; rfl
  rw [← he, show (1 : Int) = ((1 : Nat) : Int) from rfl, ro_go hl hs _ (by omega) (by omega) (by omega) (by have := b1.1; omega) (by omega), ro_end _ _ _ _ (by omega)]
  rfl
 rw [if_neg c3] at hm ⊢
 by_cases b2 : inB l ((a : Int) + 2) 128 191
 case neg =>
  have : 3 ≤ lenM (rd l (a : Int)) := by rw [hm]; split <;> decide
  rw [if_pos b2, ro_stop (n := 0 + 1 + 1) hs h1 (fun _ h hb => b2 (begN_in (n := 2) hb (by omega) h)), ro_bad h1 (by omega) (by omega)]
  rfl
 rw [if_neg (not_not_intro b2)]
 have g2 := hl.rd ((a : Int) + 2)
 have n3 := begN_up l a 2 (by omega) (by rw [hm]; split <;> decide) n2 b2
 rw [ro_step hs (by decide) (by have := b2.1; omega) n3, show k + 4 + 12 = k + 3 + 13 from rfl]
 have x1 := b1.2
 have x2 := b2.2
 by_cases c4 : rd l (a : Int) < 240
 ·rw [if_pos c4] at hm
  rw [ro_stop hs h1 (fun _ _ hb => by have := hb.1; omega), ro_good h1 (by omega) (by omega) (by omega), if_pos c4, hw]
  rw [show rd [0, 127, 31, 15, 7] ((0 + 1 + 1 + 1 : Nat) : Int) = (2 : Int) ^ 4 - 1 by decide, and_mask _ 4 (by decide) hr.1 hr.2]
  have he : head (rd l (a : Int)) = rd l (a : Int) % 2 ^ 4 := by unfold head; rw [if_neg c3, if_pos c4]; rfl
  rw [← he, show (1 : Int) = ((1 : Nat) : Int) from rfl, ro_go hl hs _ (by omega) (by omega) (by omega) (by have := b1.1; omega) (by omega)]
  rw [show ((a : Int) + ((1 : Nat) : Int)) = (a : Int) + 1 from rfl, ro_go hl hs _ (by omega) (by omega) (by omega) (by have := b2.1; omega) (by omega), ro_end _ _ _ _ (by omega)]
  rfl
 rw [if_neg c4] at hm ⊢
 by_cases b3 : inB l ((a : Int) + 3) 128 191
 case neg =>
  rw [if_pos b3, ro_stop (n := 0 + 1 + 1 + 1) hs h1 (fun _ h hb => b3 (begN_in (n := 3) hb (by omega) h)), ro_bad h1 (by omega) (by omega)]
  rfl
 rw [if_neg (not_not_intro b3)]
 have g3 := hl.rd ((a : Int) + 3)
 have n4 := begN_up l a 3 (by omega) (by rw [hm]; decide) n3 b3
 have x3 := b3.2
 rw [ro_step hs (by decide) (by have := b3.1; omega) n4, show k + 3 + 12 = k + 2 + 13 from rfl]
 rw [ro_stop hs h1 (fun h _ _ => by omega), ro_good h1 (by omega) (by omega) (by omega), hw]
 rw [show rd [0, 127, 31, 15, 7] ((0 + 1 + 1 + 1 + 1 : Nat) : Int) = (2 : Int) ^ 3 - 1 by decide, and_mask _ 3 (by decide) hr.1 hr.2]
 have he : head (rd l (a : Int)) = rd l (a : Int) % 2 ^ 3 := by unfold head; rw [if_neg c3, if_neg c4]; rfl
 rw [← he, show (1 : Int) = ((1 : Nat) : Int) from rfl, ro_go hl hs _ (by omega) (by omega) (by omega) (by have := b1.1; omega) (by omega)]
 rw [show ((a : Int) + ((1 : Nat) : Int)) = (a : Int) + 1 from rfl, ro_go hl hs _ (by omega) (by omega) (by omega) (by have := b2.1; omega) (by omega)]
 rw [show ((a : Int) + ((1 + 1 : Nat) : Int)) = (a : Int) + 2 from rfl, ro_go hl hs _ (by omega) (by omega) (by omega) (by have := b3.1; omega) (by omega), ro_end _ _ _ _ (by omega)]
 rfl
theorem rone_eq {l : List Int} (hl : IsBytes l) (at_ : Int) (h0 : 0 ≤ at_) (h1 : at_ < (l.length : Int)) (hs : l.length ≤ 100000) (k : Nat) : stanzaref01_One.f (k + 20) l at_ = some ((dec l at_).1, at_, (dec l at_).2) := by
 obtain ⟨a, rfl⟩ : ∃ a : Nat, at_ = (a : Int) := ⟨at_.toNat, by omega⟩
 exact rone_nat hl a (by omega) hs k
theorem rall_l0 (k : Nat) (x0 : List Int) (x3 : List S66) (x4 : Int) : stanzaref01_All.l0 (k + 1) x0 x3 x4 = if x4 < (x0.length : Int) then ((stanzaref01_One.f k x0 x4).bind fun b => (if x3.length < 5864062014805 then (stanzaref01_All.l0 k x0 (x3 ++ [(⟨b.1, b.2.1, b.2.2⟩ : S66)]) (wrap64 (x4 + b.2.2))) else (none))) else (some x3) := rfl
theorem rall_run {l : List Int} (hl : IsBytes l) (hs : l.length ≤ 100000) (f : Nat) : ∀ (i : Int) (xs : List S66) (k : Nat), 0 ≤ i → (l.length : Int) - i ≤ f → (xs.length : Int) ≤ i → f + 21 ≤ k → stanzaref01_All.l0 k l xs i = some (xs ++ decAll l f i) := by
 induction f with
 | zero =>
  intro i xs k h0 hf hx hk
  obtain ⟨k, rfl⟩ : ∃ k', k = k' + 1 := ⟨k - 1, by omega⟩
  rw [rall_l0, if_neg (show ¬ i < (l.length : Int) by omega), decAll, List.append_nil]
 | succ f ih =>
  intro i xs k h0 hf hx hk
  obtain ⟨k, rfl⟩ : ∃ k', k = k' + 20 + 1 := ⟨k - 21, by omega⟩
  rw [rall_l0, decAll]
  by_cases h : i < (l.length : Int)
  ·have hd := dec_len l i
   rw [if_pos h, if_pos h, rone_eq hl i h0 h hs k, Option.bind_some, if_pos (by omega)]
   dsimp only
   rw [w64 _ ⟨by omega, by omega⟩]
   rw [ih (i + (dec l i).2) _ (k + 20) (by omega) (by omega) (by rw [List.length_append]; simp only [List.length_cons, List.length_nil]; omega) (by omega)]
   rw [List.append_assoc]
   rfl
  ·rw [if_neg h, if_neg h, List.append_nil]
theorem rall_eq {l : List Int} (hl : IsBytes l) (hs : l.length ≤ 100000) (k : Nat) (hk : l.length + 21 ≤ k) : stanzaref01_All.f k l = some (decAll l l.length 0) := by
 have := rall_run hl hs l.length 0 [] k (by omega) (by omega) (by simp) hk
 rwa [List.nil_append] at this
end Go.Proofs.Ytoefjhdcipgacaa.Dec
end
section
namespace Go.Proofs.Ytoefjhdcipgacaa.Dec
open Go.RowKit Go.Proofs.YtoefjhdcipgacaaW.PrintWords Go.Proofs.YtoefjhdcipgacaaW.PrintLast Go.Proofs.YtoefjhdcipgacaaW.PrintMore
open Go.Proofs.Ytoefjhdcipgacaa.PA
theorem rblank_eq (c : Int) : stanzaref07_blank.f c = some (blankB c) := by
 unfold stanzaref07_blank.f blankB
 by_cases h1 : c = 32
 ·simp [h1]
 by_cases h2 : c = 9
 ·simp [h2]
 by_cases h3 : c = 10
 ·simp [h3]
 by_cases h4 : c = 13
 ·simp [h4]
 ·simp [h1, h2, h3, h4]
theorem rsame_eq (a b : List Int) (hm : a.length ≤ 100000) (k : Nat) (hk : a.length + 1 ≤ k) : stanzaref07_Same.f k a b = some (decide (a = b)) :=
 mono_le (f := fun k => stanzaref07_Same.f k a b) (stanzaref07_Same.mono a b) (Lf.same_f a b (by omega)) k hk
theorem rl1_run (L : List S66) (hs : L.length ≤ 100000) (at_ : Int) (xs ws : List S39) (t : List S66) : ∀ (j k : Nat) (word : List Int), L.drop j = t → j ≤ L.length → word.length ≤ j →
  stanzaref07_Parse.l1 (k + 1 + t.length) L (j : Int) word at_ xs ws = stanzaref07_Parse.j2 (k + (t.length - (t.takeWhile nb).length)) L ((j + (t.takeWhile nb).length : Nat) : Int) (word ++ (t.takeWhile nb).map S66.f0) at_ xs ws := by
 induction t with
 | nil =>
  intro j k word hd hj hw
  have hjl : j = L.length := by
   have : (L.drop j).length = 0 := by rw [hd]; rfl
   rw [List.length_drop] at this; omega
  show stanzaref07_Parse.l1 (k + 1) L (j : Int) word at_ xs ws = _
  rw [stanzaref07_Parse.l1.eq_2, if_neg (by omega), List.takeWhile_nil, List.map_nil, List.append_nil]
  rfl
 | cons s t ih =>
  intro j k word hd hj hw
  have hjl : j < L.length := by
   rcases Nat.lt_or_ge j L.length with h | h
   ·exact h
   ·rw [List.drop_eq_nil_of_le h] at hd; cases hd
  have hd2 := hd
  rw [List.drop_eq_getElem_cons hjl] at hd2
  injection hd2 with hs1 hd2
  show stanzaref07_Parse.l1 (k + 1 + t.length + 1) L (j : Int) word at_ xs ws = _
  rw [stanzaref07_Parse.l1.eq_2, if_pos (by omega), if_pos (by omega), rd66 hjl, hs1, rblank_eq, Option.bind_some]
  by_cases hb : blankB s.f0 = true
  ·have hn : nb s = false := by rw [nb, hb]; rfl
   rw [if_pos hb, List.takeWhile_cons_of_neg (by simp [hn]), List.map_nil, List.append_nil]
   rw [show k + 1 + t.length = k + ((s :: t).length - ([] : List S66).length) by simp; omega]
   rfl
  ·have hn : nb s = true := by rw [nb]; simpa using hb
   rw [if_neg hb, List.takeWhile_cons_of_pos hn, if_pos (by omega), w64 _ ⟨by omega, by omega⟩]
   have := ih (j + 1) k (word ++ [s.f0]) hd2 (by omega) (by rw [List.length_append, List.length_singleton]; omega)
   rw [show ((j : Int) + 1) = ((j + 1 : Nat) : Int) by omega, this, List.length_cons, List.length_cons, List.map_cons, List.append_assoc]
   rw [show t.length + 1 - ((t.takeWhile nb).length + 1) = t.length - (t.takeWhile nb).length by omega, show j + ((t.takeWhile nb).length + 1) = j + 1 + (t.takeWhile nb).length by omega]
   rfl
def rtail (k : Nat) (L : List S66) (j : Int) (word : List Int) (at_ n : Int) (xs ws : List S39) : Option Res :=
 ((stanzaref07_pattern.f k word (decide (n > 0))).bind fun b => (if b.2.2 = true then (if n = 0 then (if xs.length < 2932031007402 then (stanzaref07_Parse.l0 k L j (xs ++ [(⟨b.1, b.2.1⟩ : S39)]) ws) else (none)) else (stanzaref07_Parse.l3 k L j at_ 0 xs ws b.1 b.2.1)) else (some (([] : List (S39)), ([] : List (S39)), 30, at_))))
theorem rl2_eq (k : Nat) (L : List S66) (j : Int) (word : List Int) (at_ n i : Int) (xs ws : List S39) : stanzaref07_Parse.l2 (k + 1) L j word at_ n i xs ws = if i < (word.length : Int) then (if 0 ≤ i then (if (rd word i) = 45 then (stanzaref07_Parse.l2 k L j word at_ (wrap64 (n + 1)) (wrap64 (i + 1)) xs ws) else (stanzaref07_Parse.l2 k L j word at_ n (wrap64 (i + 1)) xs ws)) else (none)) else rtail k L j word at_ n xs ws := rfl
theorem rl2_run (L : List S66) (j : Int) (word : List Int) (hs : word.length ≤ 100000) (at_ : Int) (xs ws : List S39) (d : Nat) : ∀ (i k : Nat) (n : Int), word.length - i = d → i ≤ word.length → 0 ≤ n → n ≤ i →
  ∃ n', 0 ≤ n' ∧ (0 < n' ↔ 0 < n ∨ 45 ∈ word.drop i) ∧ stanzaref07_Parse.l2 (k + d + 1) L j word at_ n (i : Int) xs ws = rtail k L j word at_ n' xs ws := by
 induction d with
 | zero =>
  intro i k n hd hi h0 hn
  refine ⟨n, h0, ?_, ?_⟩
  ·rw [List.drop_eq_nil_of_le (by omega)]; simp
  ·rw [rl2_eq, if_neg (by omega)]
 | succ d ih =>
  intro i k n hd hi h0 hn
  have hil : i < word.length := by omega
  have hdr := drop_rd hil
  have w1 : wrap64 ((i : Int) + 1) = ((i + 1 : Nat) : Int) := by rw [w64 _ ⟨by omega, by omega⟩]; rfl
  have wn : wrap64 (n + 1) = n + 1 := w64 _ ⟨by omega, by omega⟩
  rw [show k + (d + 1) + 1 = (k + d + 1) + 1 by omega, rl2_eq, if_pos (by omega), if_pos (by omega), w1, wn, hdr]
  by_cases hc : rd word (i : Int) = 45
  ·obtain ⟨n', a1, a2, a3⟩ := ih (i + 1) k (n + 1) (by omega) (by omega) (by omega) (by omega)
   refine ⟨n', a1, ?_, by rw [if_pos hc]; exact a3⟩
   rw [a2, List.mem_cons]
   constructor
   ·intro _; exact .inr (.inl hc.symm)
   ·intro _; left; omega
  ·obtain ⟨n', a1, a2, a3⟩ := ih (i + 1) k n (by omega) (by omega) (by omega) (by omega)
   refine ⟨n', a1, ?_, by rw [if_neg hc]; exact a3⟩
   rw [a2, List.mem_cons]
   constructor
   ·rintro (h | h)
    ·exact .inl h
    ·exact .inr (.inr h)
   ·rintro (h | h | h)
    ·exact .inl h
    ·exact absurd h.symm hc
    ·exact .inr h
theorem hasHyphen_map (wd : List S66) : Hy.hasHyphen wd = true ↔ 45 ∈ wd.map S66.f0 := by
 rw [Hy.hasHyphen, List.any_eq_true]
 constructor
 ·rintro ⟨x, hx, h⟩
  exact List.mem_map.2 ⟨x, hx, of_decide_eq_true h⟩
 ·intro h
  obtain ⟨x, hx, h⟩ := List.mem_map.1 h
  exact ⟨x, hx, decide_eq_true h⟩
theorem rl3_eq (k : Nat) (L : List S66) (j at_ i : Int) (xs ws : List S39) (p v : List Int) : stanzaref07_Parse.l3 (k + 1) L j at_ i xs ws p v = if i < (ws.length : Int) then (if 0 ≤ i then ((stanzaref07_Same.f k ((rd_T39 ws i).f0) p).bind fun t388 => (if t388 = true then (some (([] : List (S39)), ([] : List (S39)), 23, at_)) else (stanzaref07_Parse.l3 k L j at_ (wrap64 (i + 1)) xs ws p v))) else (none)) else (if ws.length < 2932031007402 then (stanzaref07_Parse.l0 k L j xs (ws ++ [(⟨p, v⟩ : S39)])) else (none)) := rfl
theorem rl3_run (L : List S66) (j at_ : Int) (xs ws : List S39) (p v : List Int) (hw : ws.length ≤ 1000) (hlen : ∀ q ∈ ws, q.f0.length ≤ 1000) (d : Nat) : ∀ (i k : Nat), ws.length - i = d → i ≤ ws.length → 1001 ≤ k →
  stanzaref07_Parse.l3 (k + d + 1) L j at_ (i : Int) xs ws p v = if Hy.hasKey (ws.drop i) p = true then some ([], [], 23, at_) else stanzaref07_Parse.l0 k L j xs (ws ++ [⟨p, v⟩]) := by
 induction d with
 | zero =>
  intro i k hd hi hk
  rw [rl3_eq, if_neg (by omega), if_pos (by omega), List.drop_eq_nil_of_le (by omega)]
  rfl
 | succ d ih =>
  intro i k hd hi hk
  have hil : i < ws.length := by omega
  have hdr : ws.drop i = rd_T39 ws (i : Int) :: ws.drop (i + 1) := by
   rw [List.drop_eq_getElem_cons hil, rd_T39, Int.toNat_natCast, List.getD_eq_getElem?_getD, List.getElem?_eq_getElem hil, Option.getD_some]
  have hq := hlen (rd_T39 ws (i : Int)) (by
   have : rd_T39 ws (i : Int) ∈ ws.drop i := by rw [hdr]; exact List.mem_cons_self ..
   exact List.mem_of_mem_drop this)
  have w1 : wrap64 ((i : Int) + 1) = ((i + 1 : Nat) : Int) := by rw [w64 _ ⟨by omega, by omega⟩]; rfl
  have hkey : Hy.hasKey (rd_T39 ws (i : Int) :: ws.drop (i + 1)) p = (decide ((rd_T39 ws (i : Int)).f0 = p) || Hy.hasKey (ws.drop (i + 1)) p) := rfl
  rw [show k + (d + 1) + 1 = (k + d + 1) + 1 by omega, rl3_eq, if_pos (by omega), if_pos (by omega), rsame_eq _ _ (by omega) _ (by omega), Option.bind_some, w1, hdr, hkey]
  by_cases hc : (rd_T39 ws (i : Int)).f0 = p
  ·rw [decide_eq_true hc, if_pos rfl, Bool.true_or, if_pos rfl]
  ·rw [decide_eq_false hc, if_neg (by decide), Bool.false_or]
   exact ih (i + 1) k (by omega) (by omega) hk
theorem rl3_go (L : List S66) (j at_ : Int) (xs ws : List S39) (p v : List Int) (hw : ws.length ≤ 1000) (hlen : ∀ q ∈ ws, q.f0.length ≤ 1000) (k : Nat) (hk : 2010 ≤ k) :
  ∃ k', k - 1001 ≤ k' ∧ stanzaref07_Parse.l3 k L j at_ 0 xs ws p v = if Hy.hasKey ws p = true then some ([], [], 23, at_) else stanzaref07_Parse.l0 k' L j xs (ws ++ [⟨p, v⟩]) := by
 have := rl3_run L j at_ xs ws p v hw hlen ws.length 0 (k - ws.length - 1) (by omega) (Nat.zero_le _) (by omega)
 rw [show k - ws.length - 1 + ws.length + 1 = k by omega, List.drop_zero] at this
 exact ⟨k - ws.length - 1, by omega, this⟩
theorem oneP_eq (wd : List S66) : oneP wd = oneM (Hy.hasHyphen wd) (wd.map S66.f0).length (wd.map S66.f0) false 0 [] [0] := by
 rw [oneP, List.length_map]
theorem rparse_run (L : List S66) (hs : L.length ≤ 5000) (hr : ∀ s ∈ L, 0 ≤ s.f0 ∧ s.f0 < 16777216) (f : Nat) : ∀ (i k : Nat) (xs ws : List S39), L.length - i ≤ f → i ≤ L.length → 2000 * (L.length - i) + 10 * L.length + 3000 ≤ k → xs.length + ws.length ≤ 256 → (∀ q ∈ ws, q.f0.length ≤ 24) →
  stanzaref07_Parse.l0 k L (i : Int) xs ws = some (pparse f (L.drop i) xs ws) := by
 induction f with
 | zero =>
  intro i k xs ws hf hi hk hx hq
  obtain ⟨k, rfl⟩ : ∃ k', k = k' + 1 := ⟨k - 1, by omega⟩
  rw [stanzaref07_Parse.l0.eq_2, if_neg (by omega), pparse]
 | succ f ih =>
  intro i k xs ws hf hi hk hx hq
  rcases Nat.lt_or_ge i L.length with hlt | hge
  ·obtain ⟨k, rfl⟩ : ∃ k', k = k' + 1 := ⟨k - 1, by omega⟩
   have hd := List.drop_eq_getElem_cons hlt
   obtain ⟨s, t, hst⟩ : ∃ s t, L.drop i = s :: t := ⟨_, _, hd⟩
   have hst2 := hst
   rw [hd] at hst2
   injection hst2 with hs1 hs2
   rw [stanzaref07_Parse.l0.eq_2, if_pos (by omega), if_pos (by omega), rd66 hlt, hs1, rblank_eq, Option.bind_some, hst, pparse]
   by_cases hb : blankB s.f0 = true
   ·rw [if_pos hb, if_pos hb, w64 _ ⟨by omega, by omega⟩, show ((i : Int) + 1) = ((i + 1 : Nat) : Int) by omega, ih (i + 1) k xs ws (by omega) (by omega) (by omega) hx hq, hs2]
   ·rw [if_neg hb, if_neg hb]
    have hn : nb s = true := by rw [nb]; simpa using hb
    have htl : t.length + 1 = L.length - i := by
     have := congrArg List.length hst
     rw [List.length_drop, List.length_cons] at this
     omega
    obtain ⟨k', hk'⟩ : ∃ k', k = k' + 1 + (s :: t).length := ⟨k - 1 - (s :: t).length, by rw [List.length_cons]; omega⟩
    rw [hk', rl1_run L (by omega) s.f1 xs ws (s :: t) i k' [] hst (by omega) (by simp), List.nil_append]
    obtain ⟨td, tr⟩ := takeWhile_drop nb (s :: t)
    have hle := takeWhile_le nb (s :: t)
    have hpos : 1 ≤ ((s :: t).takeWhile nb).length := by rw [List.takeWhile_cons_of_pos hn, List.length_cons]; omega
    obtain ⟨wd, hwd⟩ : ∃ wd, wd = (s :: t).takeWhile nb := ⟨_, rfl⟩
    obtain ⟨rs, hrs⟩ : ∃ rs, rs = (s :: t).dropWhile nb := ⟨_, rfl⟩
    rw [List.length_cons] at hle hk'
    rw [← hwd] at td tr hle hpos ⊢
    rw [← hrs] at tr ⊢
    rw [List.length_cons]
    have e2 : L.drop (i + wd.length) = rs := by rw [← List.drop_drop, hst, tr]
    obtain ⟨k2, hk2⟩ : ∃ k2, k' + (t.length + 1 - wd.length) = k2 + 1 := ⟨k' + (t.length + 1 - wd.length) - 1, by omega⟩
    rw [hk2, stanzaref07_Parse.j2.eq_2, w64 _ ⟨by omega, by omega⟩]
    by_cases hm : xs.length + ws.length ≥ 256
    ·rw [if_pos (by omega), if_pos hm]
    ·rw [if_neg (by omega), if_neg hm]
     have hml : (wd.map S66.f0).length = wd.length := List.length_map ..
     have hmem : ∀ r ∈ wd.map S66.f0, 0 ≤ r ∧ r < 16777216 := fun r h => by
      obtain ⟨x, hx, rfl⟩ := List.mem_map.1 h
      exact hr x (by
       have h1 : x ∈ s :: t := by rw [hwd] at hx; exact (List.takeWhile_sublist nb).subset hx
       rw [← hst] at h1
       exact List.mem_of_mem_drop h1)
     obtain ⟨k3, hk3⟩ : ∃ k3, k2 = k3 + (wd.map S66.f0).length + 1 := ⟨k2 - (wd.map S66.f0).length - 1, by omega⟩
     obtain ⟨n, n1, n2, n3⟩ := rl2_run L ((i + wd.length : Nat) : Int) (wd.map S66.f0) (by omega) s.f1 xs ws (wd.map S66.f0).length 0 k3 0 (by omega) (Nat.zero_le _) (Int.le_refl _) (Int.le_refl _)
     rw [show ((0 : Nat) : Int) = 0 from rfl] at n3
     rw [hk3, n3, rtail]
     have hhy : Hy.hasHyphen wd = decide (n > 0) := by
      rw [Bool.eq_iff_iff, decide_eq_true_eq, hasHyphen_map]
      have := n2
      rw [List.drop_zero] at this
      constructor
      ·intro h; exact this.2 (.inr h)
      ·intro h; exact (this.1 h).resolve_left (by omega)
     obtain ⟨r, r1, r2, r3⟩ := rpat_eq (wd.map S66.f0) (decide (n > 0)) (by omega) hmem k3 (by omega)
     rw [← hhy, ← oneP_eq] at r2 r3
     rw [r1, Option.bind_some]
     dsimp only
     have hih : ∀ k4 xs' ws', k3 - 1001 ≤ k4 → xs'.length + ws'.length ≤ 256 → (∀ q ∈ ws', q.f0.length ≤ 24) → stanzaref07_Parse.l0 k4 L ((i + wd.length : Nat) : Int) xs' ws' = some (pparse f rs xs' ws') := fun k4 xs' ws' hk4 hx' hq' => by
      rw [ih (i + wd.length) k4 xs' ws' (by omega) (by omega) (by omega) hx' hq', e2]
     by_cases hok : (oneP wd).2.2 = true
     ·have hre := r3 hok
      subst hre
      rw [if_pos hok, if_pos hok]
      by_cases hh : Hy.hasHyphen wd = true
      ·rw [if_pos hh]
       have hn0 : n > 0 := by rw [hhy] at hh; exact of_decide_eq_true hh
       rw [if_neg (by omega)]
       obtain ⟨k5, k51, k52⟩ := rl3_go L ((i + wd.length : Nat) : Int) s.f1 xs ws (oneP wd).1 (oneP wd).2.1 (by omega) (fun q h => by have := hq q h; omega) k3 (by omega)
       rw [k52]
       by_cases hk3 : Hy.hasKey ws (oneP wd).1 = true
       ·rw [if_pos hk3, if_pos hk3]
       ·rw [if_neg hk3, if_neg hk3]
        have hg := (oneM_good _ _ _ _ _ _ _ (oneP wd).1 (oneP wd).2.1 (by rw [← hok]; rfl) rfl (by simp)).1
        exact hih _ _ _ k51 (by rw [List.length_append, List.length_cons, List.length_nil]; omega) (fun q h => by
         rcases List.mem_append.1 h with h | h
         ·exact hq q h
         ·rw [List.mem_singleton.1 h]; exact hg)
      ·rw [if_neg hh]
       have hn0 : n = 0 := by
        have : ¬ n > 0 := fun h => hh (by rw [hhy]; exact decide_eq_true h)
        omega
       rw [if_pos hn0, if_pos (by omega)]
       exact hih _ _ _ (by omega) (by rw [List.length_append, List.length_cons, List.length_nil]; omega) hq
     ·have hok' : ¬ r.2.2 = true := by rw [r2]; exact hok
      rw [if_neg hok, if_neg hok']
  ·obtain ⟨k, rfl⟩ : ∃ k', k = k' + 1 := ⟨k - 1, by omega⟩
   rw [stanzaref07_Parse.l0.eq_2, if_neg (by omega), List.drop_eq_nil_of_le hge, pparse]
def RK : Nat := 20000000
theorem rparse_eq (s : ByteArray) (k : Nat) (hk : RK ≤ k) : stanzaref07_Parse.f k s = some (parseOf s) := by
 have hk : 20000000 ≤ k := hk
 unfold stanzaref07_Parse.f parseOf
 by_cases h : 4096 < s.size
 ·rw [if_pos (by omega), if_pos h]
 ·rw [if_neg (by omega), if_neg h]
  have hb := isBytes_of s
  have hlen : (PA.bytesOf s).length ≤ 4096 := by rw [PA.bytesOf_length]; omega
  rw [rall_eq hb (by omega) k (by omega), Option.bind_some]
  have hsl : (signs s).length ≤ 4096 := Nat.le_trans (decAll_len _ _ _) hlen
  have := rparse_run (signs s) (by omega) (decAll_in hb _ _) (signs s).length 0 k [] [] (by omega) (by omega) (by omega) (by decide) (fun q h => by cases h)
  exact this
end Go.Proofs.Ytoefjhdcipgacaa.Dec
end
