/-
  The trie's contracts for patterns that are few and short (at most 1000 of each), as the laws of chapter 8 use them.
-/
import Derived.Test.YtoefjhdcipgacaaRefVals
import Derived.Test.YtoefjhdcipgacaaRefPlain
import Derived.Test.YtoefjhdcipgacaaSmall
import Derived.Test.YtoefjhdcipgacaaLeaf
namespace Go.Proofs.Ytoefjhdcipgacaa.Tr
open Go.RowKit Go.Proofs.YtoefjhdcipgacaaW.PrintWords Go.Proofs.YtoefjhdcipgacaaW.PrintLast Go.Proofs.YtoefjhdcipgacaaW.PrintMore
open Go.Proofs.Ytoefjhdcipgacaa.PA

theorem mergeTo_le {xs vs : List Int} {B : Nat} (hx : xs.length ≤ B) (hv : vs.length ≤ B) : (mergeTo xs vs vs.length).length ≤ B := by
  rw [mergeTo_length]; omega
theorem TM.walk_vals (ls : List Int) : ∀ s : TM × Nat, (ls.foldl TM.step s).1.vals = s.1.vals := by
  induction ls with
  | nil => intro s; rfl
  | cons r ls ih =>
    intro s
    rw [List.foldl_cons, ih]
    unfold TM.step
    split <;> rfl
theorem make_vals_len (B : Nat) (l : List (List Int × List Int)) : ∀ T : TM, (∀ i, (T.vals i).length ≤ B) → (∀ p ∈ l, p.2.length ≤ B) → ∀ i, ((l.foldl TM.insert T).vals i).length ≤ B := by
  induction l with
  | nil => intro T h _; exact h
  | cons p l ih =>
    intro T h hp
    refine ih (T.insert p) (fun i => ?_) (fun q hq => hp q (List.mem_cons_of_mem _ hq))
    have hw : (T.walk p.1).1.vals = T.vals := TM.walk_vals p.1 (T, 0)
    show (if i = (T.walk p.1).2 then mergeTo ((T.walk p.1).1.vals (T.walk p.1).2) p.2 p.2.length else (T.walk p.1).1.vals i).length ≤ B
    rw [hw]
    split
    · exact mergeTo_le (h _) (hp p (List.mem_cons_self ..))
    · exact h i

/-- Patterns that are few and short, of letters and values that the types hold. -/
def Few (p : S39) : Prop := p.f0.length ≤ 1000 ∧ p.f1.length ≤ 1000 ∧ (∀ r ∈ p.f0, In32 r) ∧ ∀ x ∈ p.f1, 0 ≤ x
def Fit (l : List S39) : Prop := l.length ≤ 1000 ∧ ∀ p ∈ l, Few p
theorem Fit.letters {l : List S39} (h : Fit l) : letters (l.map pq) ≤ 1099511627776 := by
  have key : ∀ l : List S39, (∀ p ∈ l, Few p) → Tr.letters (l.map pq) ≤ l.length * 1000 := by
    intro l
    induction l with
    | nil => intro _; exact Nat.zero_le _
    | cons p l ih =>
      intro h
      have h1 := ih (fun q hq => h q (List.mem_cons_of_mem _ hq))
      have h2 := (h p (List.mem_cons_self ..)).1
      simp only [Tr.letters, List.map_cons, List.sum_cons, List.length_cons, List.map_map] at h1 ⊢
      show p.f0.length + _ ≤ _
      omega
  have := key l h.2
  have := h.1
  omega
theorem Fit.nn {l : List S39} (h : Fit l) : ∀ p ∈ l.map pq, NN p.2 := by
  intro p hp
  obtain ⟨q, hq, rfl⟩ := List.mem_map.1 hp
  exact NN.of_mem (h.2 q hq).2.2.2
theorem Fit.vals {l : List S39} (h : Fit l) : ∀ i, ((make (l.map pq)).vals i).length ≤ 1099511627776 := by
  refine make_vals_len _ _ TM.init (fun i => Nat.zero_le _) (fun p hp => ?_)
  obtain ⟨q, hq, rfl⟩ := List.mem_map.1 hp
  have := (h.2 q hq).2.1
  show q.f1.length ≤ _
  omega
theorem Fit.append {l m : List S39} (hl : ∀ p ∈ l, Few p) (hm : ∀ p ∈ m, Few p) (h : (l ++ m).length ≤ 1000) : Fit (l ++ m) :=
  ⟨h, fun p hp => (List.mem_append.1 hp).elim (hl p) (hm p)⟩

/-- A word that is short. -/
def Word (ls : List Int) : Prop := ls.length ≤ 1000 ∧ ∀ r ∈ ls, In32 r

theorem make_fit (l : List S39) (A : Option Addr) (c : Nat) (w : World) (hr : Kd.C k39 w A l.length l) (hc : l.length ≤ c) (h : Fit l) :
    Calls Try.prog 19 #[.slice A l.length c] w fun e w' => ∃ bt, e = .returned (.pointer (some ⟨bt, 0, none⟩)) ∧ TrieAt w' w.heap.size bt (make (l.map pq)) ∧ Below w.heap.size w w' :=
  make_calls l A c w hr hc (fun p hp => (h.2 p hp).2.2.1) h.letters (fun p hp => by have := (h.2 p hp).2.1; omega)
theorem values_fit (l : List S39) (base bt : Nat) (A : Option Addr) (c : Nat) (word : List Int) (w : World) (hT : TrieAt w base bt (make (l.map pq))) (hr : Kd.C (Kd.int .i32) w A word.length word) (hc : word.length ≤ c) (h : Fit l) (hw : Word word) :
    Calls Try.prog 20 #[.pointer (some ⟨bt, 0, none⟩), .slice A word.length c] w fun e w' => ∃ v, e = .returned v ∧ Kd.R (Kd.int .u8) 5 w' w.heap.size (fun _ => True) v (values (make (l.map pq)) word) ∧ Below w.heap.size w w' :=
  values_calls base bt _ A c word w hT hr hc hw.2 (by have := hw.1; omega) h.vals
theorem refVals_fit (l : List S39) (A0 : Option Addr) (c0 : Nat) (A : Option Addr) (c : Nat) (word : List Int) (w : World) (hl : Kd.C k39 w A0 l.length l) (hlc : l.length ≤ c0) (hr : Kd.C (Kd.int .i32) w A word.length word) (hc : word.length ≤ c) (h : Fit l) (hw : Word word) :
    Calls Try.prog 21 #[.slice A0 l.length c0, .slice A word.length c] w fun e w' => ∃ v, e = .returned v ∧ Kd.R (Kd.int .u8) 5 w' w.heap.size (fun _ => True) v (values (make (l.map pq)) word) ∧ Below w.heap.size w w' := by
  rw [values_ref _ h.nn]
  exact refVals_calls l A0 c0 A c word w hl hlc hr hc (by have := hw.1; omega) (fun p hp => by have := (h.2 p hp).1; omega) (fun p hp => by have := (h.2 p hp).2.1; omega)
theorem TrieAt.below {w w1 : World} {base bt : Nat} {T : TM} (h : TrieAt w base bt T) (hb : Below w.heap.size w w1) : TrieAt w1 base bt T := by
  obtain ⟨bn, cap, K, xs, ms, vs, hK, h⟩ := h
  exact ⟨bn, cap, K, xs, ms, vs, hK, h.below hb⟩

/-- What a row's patterns hold. -/
def Pats (l : List S39) : Prop := ∀ p ∈ l, (∀ r ∈ p.f0, In32 r) ∧ ∀ x ∈ p.f1, 0 ≤ x
theorem letterOf_in (r : Int) : Sm.letterOf r = 97 ∨ Sm.letterOf r = 98 ∨ Sm.letterOf r = 99 ∨ Sm.letterOf r = 46 := by
  unfold Sm.letterOf
  have h1 : 0 ≤ r % 4 := Int.emod_nonneg _ (by decide)
  have h2 : r % 4 < 4 := Int.emod_lt_of_pos _ (by decide)
  obtain ⟨n, hn⟩ : ∃ n : Nat, (r % 4).toNat = n := ⟨_, rfl⟩
  have : n < 4 := by omega
  rw [hn]
  match n, this with
  | 0, _ => exact .inl rfl
  | 1, _ => exact .inr (.inl rfl)
  | 2, _ => exact .inr (.inr (.inl rfl))
  | 3, _ => exact .inr (.inr (.inr rfl))
theorem letter3_in (r : Int) : Lf.letter3 r = 97 ∨ Lf.letter3 r = 98 ∨ Lf.letter3 r = 99 := by
  unfold Lf.letter3
  have h1 : 0 ≤ r % 4294967296 % 3 := Int.emod_nonneg _ (by decide)
  have h2 : r % 4294967296 % 3 < 3 := Int.emod_lt_of_pos _ (by decide)
  obtain ⟨n, hn⟩ : ∃ n : Nat, (r % 4294967296 % 3).toNat = n := ⟨_, rfl⟩
  have : n < 3 := by omega
  rw [hn]
  match n, this with
  | 0, _ => exact .inl rfl
  | 1, _ => exact .inr (.inl rfl)
  | 2, _ => exact .inr (.inr rfl)
theorem small_few (fit : Bool) (l : List S39) (h : Pats l) : ∀ p ∈ Sm.small fit l, p.f0.length ≤ 8 ∧ p.f1.length ≤ 12 ∧ (∀ r ∈ p.f0, In32 r) ∧ ∀ x ∈ p.f1, 0 ≤ x := by
  intro p hp
  obtain ⟨q, hq, rfl⟩ := List.mem_map.1 hp
  have hq' := h q (List.mem_of_mem_take hq)
  refine ⟨?_, ?_, ?_, fun x hx => hq'.2 x (List.mem_of_mem_take hx)⟩
  · show (List.map _ (q.f0.take 8)).length ≤ 8
    rw [List.length_map, List.length_take]; omega
  · show (q.f1.take 12).length ≤ 12
    rw [List.length_take]; omega
  · intro r hr
    obtain ⟨s, hs, rfl⟩ := List.mem_map.1 hr
    cases fit with
    | false => exact hq'.1 s (List.mem_of_mem_take hs)
    | true =>
      show In32 (Sm.letterOf s)
      rcases letterOf_in s with h | h | h | h <;> rw [h] <;> exact ⟨by decide, by decide⟩
theorem small_fit (fit : Bool) (l : List S39) (h : Pats l) : Fit (Sm.small fit l) :=
  ⟨Nat.le_trans (Sm.smallTo_len fit l 40) (by decide), fun p hp => by obtain ⟨h1, h2, h3, h4⟩ := small_few fit l h p hp; exact ⟨by omega, by omega, h3, h4⟩⟩
theorem word_len (fit : Bool) (ls : List Int) : (Lf.word fit ls).length ≤ 60 := by
  show (List.map _ (ls.take 60)).length ≤ 60
  rw [List.length_map, List.length_take]; omega
theorem word_fit (fit : Bool) (ls : List Int) (h : ∀ r ∈ ls, In32 r) : Word (Lf.word fit ls) := by
  refine ⟨Nat.le_trans (word_len fit ls) (by decide), fun r hr => ?_⟩
  obtain ⟨s, hs, rfl⟩ := List.mem_map.1 hr
  cases fit with
  | false => exact h s (List.mem_of_mem_take hs)
  | true =>
    show In32 (Lf.letter3 s)
    rcases letter3_in s with h | h | h <;> rw [h] <;> exact ⟨by decide, by decide⟩
end Go.Proofs.Ytoefjhdcipgacaa.Tr
