/-
  stanzaref07.Beginnings: what it answers, in plain words: how many unlike beginnings the patterns have, the empty one among them.
-/
import Derived.Test.YtoefjhdcipgacaaPAx7
import Derived.Test.YtoefjhdcipgacaaTrieFit
namespace Go.Proofs.Ytoefjhdcipgacaa.Tr
open Go.RowKit Go.Proofs.YtoefjhdcipgacaaW.PrintWords Go.Proofs.YtoefjhdcipgacaaW.PrintLast Go.Proofs.YtoefjhdcipgacaaW.PrintMore
open Go.Proofs.Ytoefjhdcipgacaa.PA

theorem beg_up {k k' : Nat} (h : k ≤ k') : (∀ y0 y1 y2, LeO (stanzaref07_Beginnings.l0 k y0 y1 y2) (stanzaref07_Beginnings.l0 k' y0 y1 y2)) ∧ (∀ y0 y1 y2 y3, LeO (stanzaref07_Beginnings.l1 k y0 y1 y2 y3) (stanzaref07_Beginnings.l1 k' y0 y1 y2 y3)) ∧
    (∀ y0 y1 y2 y3 y4 y5, LeO (stanzaref07_Beginnings.l2 k y0 y1 y2 y3 y4 y5) (stanzaref07_Beginnings.l2 k' y0 y1 y2 y3 y4 y5)) := by
  induction h with
  | refl => exact ⟨fun _ _ _ => LeO.refl _, fun _ _ _ _ => LeO.refl _, fun _ _ _ _ _ _ => LeO.refl _⟩
  | step _ ih =>
    obtain ⟨i0, i1, i2⟩ := ih
    obtain ⟨m0, m1, m2⟩ := stanzaref07_Beginnings.mono_l _
    exact ⟨fun _ _ _ => (i0 _ _ _).trans (m0 _ _ _), fun _ _ _ _ => (i1 _ _ _ _).trans (m1 _ _ _ _), fun _ _ _ _ _ _ => (i2 _ _ _ _ _ _).trans (m2 _ _ _ _ _ _)⟩
theorem same_up (a b : List Int) {k k' : Nat} (h : k ≤ k') : LeO (stanzaref07_Same.f k a b) (stanzaref07_Same.f k' a b) := by
  induction h with
  | refl => exact LeO.refl _
  | step _ ih => exact ih.trans (stanzaref07_Same.mono _ _ _)

/-- One beginning more, if it isn't there. -/
def addPre (xs : List (List Int)) (q : List Int) : List (List Int) := if q ∈ xs then xs else xs ++ [q]
/-- The d beginnings of ls from length n on. -/
def addFrom (ls : List Int) : Nat → Nat → List (List Int) → List (List Int)
  | 0, _, xs => xs
  | d + 1, n, xs => addFrom ls d (n + 1) (addPre xs (ls.take n))
def begs (l : List S39) (xs : List (List Int)) : List (List Int) := l.foldl (fun xs p => addFrom p.f0 p.f0.length 1 xs) xs

theorem addPre_len (xs : List (List Int)) (q : List Int) : (addPre xs q).length ≤ xs.length + 1 := by
  unfold addPre
  split
  · omega
  · simp
theorem addPre_mem (xs : List (List Int)) (q r : List Int) : r ∈ addPre xs q ↔ r ∈ xs ∨ r = q := by
  unfold addPre
  split
  · rename_i h
    constructor
    · exact .inl
    · rintro (h' | rfl)
      · exact h'
      · exact h
  · simp
theorem addPre_nodup {xs : List (List Int)} (h : xs.Nodup) (q : List Int) : (addPre xs q).Nodup := by
  unfold addPre
  split
  · exact h
  · rename_i hq
    rw [List.nodup_append]
    exact ⟨h, by simp, fun a ha b hb => by rw [List.mem_singleton.1 hb]; rintro rfl; exact hq ha⟩
theorem addFrom_len (ls : List Int) (d : Nat) : ∀ (n : Nat) (xs : List (List Int)), (addFrom ls d n xs).length ≤ xs.length + d := by
  induction d with
  | zero => intro n xs; exact Nat.le_refl _
  | succ d ih =>
    intro n xs
    have h1 := ih (n + 1) (addPre xs (ls.take n))
    have h2 := addPre_len xs (ls.take n)
    show (addFrom ls d (n + 1) (addPre xs (ls.take n))).length ≤ _
    omega
theorem addFrom_mem (ls : List Int) (d : Nat) : ∀ (n : Nat) (xs : List (List Int)) (r : List Int), r ∈ addFrom ls d n xs ↔ r ∈ xs ∨ ∃ m, n ≤ m ∧ m < n + d ∧ r = ls.take m := by
  induction d with
  | zero => intro n xs r; show r ∈ xs ↔ _; exact ⟨.inl, fun h => h.elim id (fun ⟨m, h1, h2, _⟩ => absurd h2 (by omega))⟩
  | succ d ih =>
    intro n xs r
    show r ∈ addFrom ls d (n + 1) (addPre xs (ls.take n)) ↔ _
    rw [ih, addPre_mem]
    constructor
    · rintro ((h | rfl) | ⟨m, h1, h2, rfl⟩)
      · exact .inl h
      · exact .inr ⟨n, by omega, by omega, rfl⟩
      · exact .inr ⟨m, by omega, by omega, rfl⟩
    · rintro (h | ⟨m, h1, h2, rfl⟩)
      · exact .inl (.inl h)
      · rcases Nat.lt_or_ge n m with hlt | hge
        · exact .inr ⟨m, by omega, by omega, rfl⟩
        · obtain rfl : n = m := by omega
          exact .inl (.inr rfl)
theorem addFrom_nodup (ls : List Int) (d : Nat) : ∀ (n : Nat) (xs : List (List Int)), xs.Nodup → (addFrom ls d n xs).Nodup := by
  induction d with
  | zero => intro n xs h; exact h
  | succ d ih => intro n xs h; exact ih (n + 1) _ (addPre_nodup h _)
theorem begs_mem (l : List S39) : ∀ (xs : List (List Int)) (r : List Int), r ∈ begs l xs ↔ r ∈ xs ∨ ∃ p ∈ l, r ≠ [] ∧ r <+: p.f0 := by
  induction l with
  | nil => intro xs r; show r ∈ xs ↔ _; simp
  | cons p l ih =>
    intro xs r
    show r ∈ begs l (addFrom p.f0 p.f0.length 1 xs) ↔ _
    rw [ih, addFrom_mem]
    have key : (∃ m, 1 ≤ m ∧ m < 1 + p.f0.length ∧ r = p.f0.take m) ↔ (r ≠ [] ∧ r <+: p.f0) := by
      constructor
      · rintro ⟨m, h1, h2, rfl⟩
        refine ⟨fun h => ?_, List.take_prefix _ _⟩
        have := congrArg List.length h
        rw [List.length_take, List.length_nil] at this
        omega
      · rintro ⟨h1, h2⟩
        refine ⟨r.length, List.length_pos_iff.2 h1, by have := h2.length_le; omega, ?_⟩
        exact List.prefix_iff_eq_take.1 h2
    rw [key]
    constructor
    · rintro ((h | h) | ⟨q, hq, h⟩)
      · exact .inl h
      · exact .inr ⟨p, List.mem_cons_self .., h⟩
      · exact .inr ⟨q, List.mem_cons_of_mem _ hq, h⟩
    · rintro (h | ⟨q, hq, h⟩)
      · exact .inl (.inl h)
      · rcases List.mem_cons.1 hq with rfl | hq
        · exact .inl (.inr h)
        · exact .inr ⟨q, hq, h⟩
theorem begs_nodup (l : List S39) : ∀ (xs : List (List Int)), xs.Nodup → (begs l xs).Nodup := by
  induction l with
  | nil => intro xs h; exact h
  | cons p l ih => intro xs h; exact ih _ (addFrom_nodup _ _ _ _ h)
theorem len_le_of_sub {α : Type} [BEq α] [LawfulBEq α] : ∀ {xs ys : List α}, xs.Nodup → (∀ x ∈ xs, x ∈ ys) → xs.length ≤ ys.length := by
  intro xs
  induction xs with
  | nil => intro ys _ _; exact Nat.zero_le _
  | cons x xs ih =>
    intro ys hn hs
    obtain ⟨h1, h2⟩ := List.nodup_cons.1 hn
    have hx : x ∈ ys := hs x (List.mem_cons_self ..)
    have := ih (ys := ys.erase x) h2 (fun y hy => (List.mem_erase_of_ne (by rintro rfl; exact h1 hy)).2 (hs y (List.mem_cons_of_mem _ hy)))
    rw [List.length_erase_of_mem hx] at this
    have := List.length_pos_of_mem hx
    rw [List.length_cons]
    omega
theorem len_of_nodup {α : Type} [BEq α] [LawfulBEq α] {xs ys : List α} (hx : xs.Nodup) (hy : ys.Nodup) (h : ∀ q, q ∈ xs ↔ q ∈ ys) : xs.length = ys.length :=
  Nat.le_antisymm (len_le_of_sub hx (fun q hq => (h q).1 hq)) (len_le_of_sub hy (fun q hq => (h q).2 hq))
/-- As many as the trie has nodes. -/
theorem begs_nodes (l : List S39) (h : Fit l) : (begs l [[]]).length = (make (l.map pq)).n := by
  obtain ⟨ps, hT, hps⟩ := make_tri (l.map pq) h.nn
  rw [← hT.len]
  refine len_of_nodup (begs_nodup l _ (by simp)) hT.nodup (fun q => ?_)
  rw [begs_mem, hps]
  constructor
  · rintro (h | ⟨p, hp, h1, h2⟩)
    · exact .inl (List.mem_singleton.1 h)
    · exact .inr ⟨pq p, List.mem_map.2 ⟨p, hp, rfl⟩, h2⟩
  · rintro (rfl | ⟨p, hp, h2⟩)
    · exact .inl (List.mem_singleton.2 rfl)
    · obtain ⟨s, hs, rfl⟩ := List.mem_map.1 hp
      by_cases hq : q = []
      · exact .inl (by rw [hq]; exact List.mem_singleton.2 rfl)
      · exact .inr ⟨s, hs, hq, h2⟩

theorem wrap_small {n : Int} (h0 : 0 ≤ n) (h : n ≤ 9000000000000) : wrap64 (n + 1) = n + 1 := by unfold wrap64; omega

theorem beg_l2 (l : List S39) (xs : List (List Int)) (i n : Nat) (r : Int) (hi : i < l.length) (hn : n ≤ (rd_T39 l (i : Int)).f0.length) (hn2 : n ≤ 1000000) (hx : xs.length ≤ 1000000) (hL : ∀ y ∈ xs, y.length ≤ 1000000) (d : Nat) : ∀ (j : Nat) (b : Bool), d + j = xs.length →
    (∃ k, stanzaref07_Beginnings.l1 k l (if b = true ∨ (rd_T39 l (i : Int)).f0.take n ∈ xs.drop j then xs else xs ++ [(rd_T39 l (i : Int)).f0.take n]) (i : Int) ((n : Int) + 1) = some r) →
    ∃ k, stanzaref07_Beginnings.l2 k l xs (i : Int) (n : Int) b (j : Int) = some r := by
  induction d with
  | zero =>
    rintro j b hj ⟨k, hk⟩
    refine ⟨k + 1, ?_⟩
    rw [stanzaref07_Beginnings.l2, if_neg (by omega), wrap_small (by omega) (by omega)]
    cases b with
    | true => rw [if_pos rfl]; simpa using hk
    | false =>
      rw [if_neg (by decide), if_pos (by omega), if_pos (by omega), if_pos (by omega), if_pos (by omega), if_pos (by omega)]
      rw [List.drop_of_length_le (by omega), if_neg (by simp)] at hk
      simpa using hk
  | succ d ih =>
    rintro j b hj ⟨k, hk⟩
    have hjl : j < xs.length := by omega
    have hw : wrap64 ((j : Int) + 1) = ((j + 1 : Nat) : Int) := by rw [wrap_small (by omega) (by omega)]; rfl
    cases b with
    | true =>
      obtain ⟨k', h'⟩ := ih (j + 1) true (by omega) ⟨k, by rw [if_pos (.inl rfl)] at hk ⊢; exact hk⟩
      refine ⟨k' + 1, ?_⟩
      rw [stanzaref07_Beginnings.l2, if_pos (by omega), if_pos rfl, hw]
      exact h'
    | false =>
      have hg : rd_L1 xs (j : Int) = xs[j] := by simp [rd_L1, List.getD_eq_getElem?_getD, List.getElem?_eq_getElem hjl]
      have hm : xs[j].length ≤ 1000000 := hL _ (List.getElem_mem hjl)
      have hd : xs.drop j = xs[j] :: xs.drop (j + 1) := List.drop_eq_getElem_cons hjl
      obtain ⟨k', h'⟩ := ih (j + 1) (decide (xs[j] = (rd_T39 l (i : Int)).f0.take n)) (by omega) ⟨k, by
        rw [hd] at hk
        have e : (false = true ∨ (rd_T39 l (i : Int)).f0.take n ∈ xs[j] :: xs.drop (j + 1)) ↔ (decide (xs[j] = (rd_T39 l (i : Int)).f0.take n) = true ∨ (rd_T39 l (i : Int)).f0.take n ∈ xs.drop (j + 1)) := by
          rw [List.mem_cons, decide_eq_true_iff]
          constructor
          · rintro (h | h | h)
            · cases h
            · exact .inl h.symm
            · exact .inr h
          · rintro (h | h)
            · exact .inr (.inl h.symm)
            · exact .inr (.inr h)
        by_cases c : (false = true ∨ (rd_T39 l (i : Int)).f0.take n ∈ xs[j] :: xs.drop (j + 1))
        · rw [if_pos c] at hk
          rw [if_pos (e.1 c)]
          exact hk
        · rw [if_neg c] at hk
          rw [if_neg (fun h => c (e.2 h))]
          exact hk⟩
      refine ⟨max k' (xs[j].length + 1) + 1, ?_⟩
      rw [stanzaref07_Beginnings.l2, if_pos (by omega), if_neg (by decide), if_pos (by omega), if_pos (by omega), if_pos (by omega), if_pos (by omega), if_pos (by omega), hg, hw, Int.toNat_natCast,
        same_up _ _ (Nat.le_max_right _ _) _ (Lf.same_f xs[j] ((rd_T39 l (i : Int)).f0.take n) (by omega))]
      exact (beg_up (Nat.le_max_left _ _)).2.2 _ _ _ _ _ _ _ h'
theorem beg_l1 (l : List S39) (i : Nat) (r : Int) (hll : l.length ≤ 1000) (hi : i < l.length) (hf : (rd_T39 l (i : Int)).f0.length ≤ 1000) (d : Nat) : ∀ (n : Nat) (xs : List (List Int)), d + n = (rd_T39 l (i : Int)).f0.length + 1 → xs.length + d ≤ 1000000 → (∀ y ∈ xs, y.length ≤ 1000000) →
    (∃ k, stanzaref07_Beginnings.l0 k l (addFrom (rd_T39 l (i : Int)).f0 d n xs) ((i : Int) + 1) = some r) → ∃ k, stanzaref07_Beginnings.l1 k l xs (i : Int) (n : Int) = some r := by
  induction d with
  | zero =>
    rintro n xs hn hx _ ⟨k, hk⟩
    refine ⟨k + 1, ?_⟩
    rw [stanzaref07_Beginnings.l1, if_pos (by omega), if_pos (by omega), if_neg (by omega), wrap_small (by omega) (by have := Int.natCast_nonneg i; omega)]
    exact hk
  | succ d ih =>
    rintro n xs hn hx hL h
    obtain ⟨k, hk⟩ := ih (n + 1) (addPre xs ((rd_T39 l (i : Int)).f0.take n)) (by omega) (by have := addPre_len xs ((rd_T39 l (i : Int)).f0.take n); omega) (fun y hy => by
      rcases (addPre_mem _ _ _).1 hy with hy | rfl
      · exact hL y hy
      · rw [List.length_take]; omega) h
    obtain ⟨k', hk'⟩ := beg_l2 l xs i n r hi (by omega) (by omega) (by omega) hL xs.length 0 false (by omega) ⟨k, by
      rw [List.drop_zero]
      have : (if false = true ∨ (rd_T39 l (i : Int)).f0.take n ∈ xs then xs else xs ++ [(rd_T39 l (i : Int)).f0.take n]) = addPre xs ((rd_T39 l (i : Int)).f0.take n) := by
        unfold addPre
        by_cases c : (rd_T39 l (i : Int)).f0.take n ∈ xs
        · rw [if_pos (.inr c), if_pos c]
        · rw [if_neg (by simp [c]), if_neg c]
      rw [this]
      exact hk⟩
    refine ⟨k' + 1, ?_⟩
    rw [stanzaref07_Beginnings.l1, if_pos (by omega), if_pos (by omega), if_pos (by omega)]
    exact hk'
theorem beg_l0 (l : List S39) (hl : Fit l) (d : Nat) : ∀ (i : Nat) (xs : List (List Int)), d + i = l.length → xs.length + d * 1000 ≤ 1000000 → (∀ y ∈ xs, y.length ≤ 1000000) →
    ∃ k, stanzaref07_Beginnings.l0 k l xs (i : Int) = some ((begs (l.drop i) xs).length : Int) := by
  induction d with
  | zero =>
    intro i xs hi hx _
    refine ⟨1, ?_⟩
    rw [stanzaref07_Beginnings.l0, if_neg (by omega), List.drop_of_length_le (by omega)]
    rfl
  | succ d ih =>
    intro i xs hi hx hL
    have hil : i < l.length := by omega
    have hg : rd_T39 l (i : Int) = l[i] := by simp [rd_T39, List.getD_eq_getElem?_getD, List.getElem?_eq_getElem hil]
    have hf : (rd_T39 l (i : Int)).f0.length ≤ 1000 := by rw [hg]; exact (hl.2 _ (List.getElem_mem hil)).1
    have hlen := addFrom_len (rd_T39 l (i : Int)).f0 (rd_T39 l (i : Int)).f0.length 1 xs
    obtain ⟨k, hk⟩ := ih (i + 1) (addFrom (rd_T39 l (i : Int)).f0 (rd_T39 l (i : Int)).f0.length 1 xs) (by omega) (by omega) (fun y hy => by
      rcases (addFrom_mem _ _ _ _ _).1 hy with hy | ⟨m, _, _, rfl⟩
      · exact hL y hy
      · rw [List.length_take]; omega)
    obtain ⟨k', hk'⟩ := beg_l1 l i _ hl.1 hil hf (rd_T39 l (i : Int)).f0.length 1 xs (by omega) (by omega) hL ⟨k, hk⟩
    refine ⟨k' + 1, ?_⟩
    rw [stanzaref07_Beginnings.l0, if_pos (by omega), List.drop_eq_getElem_cons hil, ← hg]
    exact hk'
theorem beg_fit (l : List S39) (hl : Fit l) (hb : l.length ≤ 900) : ∃ k, stanzaref07_Beginnings.f k l = some ((make (l.map pq)).n : Int) := by
  obtain ⟨k, hk⟩ := beg_l0 l hl l.length 0 [[]] (by omega) (by simp; omega) (by simp)
  refine ⟨k, ?_⟩
  rw [← begs_nodes l hl]
  exact hk
end Go.Proofs.Ytoefjhdcipgacaa.Tr
