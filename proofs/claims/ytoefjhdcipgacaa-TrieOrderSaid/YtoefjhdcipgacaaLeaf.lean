/-
  Small functions by their contracts, in plain words: Same, word.
-/
import Derived.Test.YtoefjhdcipgacaaPAx3
import Derived.Test.YtoefjhdcipgacaaPAx4
namespace Go.Proofs.Ytoefjhdcipgacaa.Lf
open Go.RowKit Go.Proofs.YtoefjhdcipgacaaW.PrintWords Go.Proofs.YtoefjhdcipgacaaW.PrintLast Go.Proofs.YtoefjhdcipgacaaW.PrintMore
open Go.Proofs.Ytoefjhdcipgacaa.PA

theorem wrap_nat {i n : Nat} (h : i < n) (hn : n ≤ 9223372036854775807) : wrap64 ((i : Int) + 1) = ((i + 1 : Nat) : Int) := by
  unfold wrap64
  omega
theorem rd_nat {xs : List Int} {i : Nat} (h : i < xs.length) : rd xs (i : Int) = xs[i] := by
  simp [rd, List.getD_eq_getElem?_getD, List.getElem?_eq_getElem h]

theorem same_l0 (a b : List Int) (hl : a.length = b.length) (hm : a.length ≤ 9223372036854775807) (d : Nat) : ∀ i : Nat, i + d = a.length → stanzaref07_Same.l0 (d + 1) a b (i : Int) = some (decide (a.drop i = b.drop i)) := by
  induction d with
  | zero =>
    intro i hi
    simp only [stanzaref07_Same.l0]
    rw [if_neg (by omega), List.drop_of_length_le (by omega), List.drop_of_length_le (by omega)]
    rfl
  | succ d ih =>
    intro i hi
    have h1 : i < a.length := by omega
    have h2 : i < b.length := by omega
    have hiff : a.drop i = b.drop i ↔ a[i] = b[i] ∧ a.drop (i + 1) = b.drop (i + 1) := by
      rw [List.drop_eq_getElem_cons h1, List.drop_eq_getElem_cons h2, List.cons.injEq]
    rw [stanzaref07_Same.l0, if_pos (by omega), if_pos (by omega), if_pos (by omega), rd_nat h1, rd_nat h2, wrap_nat h1 hm, (show decide (a.drop i = b.drop i) = decide (a[i] = b[i] ∧ a.drop (i + 1) = b.drop (i + 1)) from decide_eq_decide.2 hiff)]
    by_cases e : a[i] = b[i]
    · rw [if_pos e, ih (i + 1) (by omega)]
      congr 1
      rw [decide_eq_decide]
      exact ⟨fun h => ⟨e, h⟩, fun h => h.2⟩
    · rw [if_neg e]
      congr 1
      symm
      rw [decide_eq_false_iff_not]
      exact fun h => e h.1
theorem same_f (a b : List Int) (hm : a.length ≤ 9223372036854775807) : stanzaref07_Same.f (a.length + 1) a b = some (decide (a = b)) := by
  unfold stanzaref07_Same.f
  by_cases hl : a.length = b.length
  · rw [if_pos (by omega)]
    have := same_l0 a b hl hm a.length 0 (by omega)
    simpa using this
  · rw [if_neg (by omega)]
    congr 1
    symm
    rw [decide_eq_false_iff_not]
    rintro rfl
    exact hl rfl
theorem same_calls (A0 : Option Addr) (c0 : Nat) (a : List Int) (A1 : Option Addr) (c1 : Nat) (b : List Int) (w : World) (hr0 : Kd.C (Kd.int .i32) w A0 a.length a) (hc0 : a.length ≤ c0) (hr1 : Kd.C (Kd.int .i32) w A1 b.length b) (hc1 : b.length ≤ c1) :
    Calls Try.prog 38 #[.slice A0 a.length c0, .slice A1 b.length c1] w fun e w' => e = .returned (.bool (decide (a = b))) ∧ Drawn0 w w' :=
  stanzaref07_Same.calls _ A0 c0 a A1 c1 b _ w hr0 hc0 hr1 hc1 (same_f a b (Kd.C_max hr0))

/-! ### stanzalaw08.word -/
def letter3 (r : Int) : Int := ([97, 98, 99] : List Int).getD (r % 4294967296 % 3).toNat 0
def wordTo (fit : Bool) (ls : List Int) (k : Nat) : List Int := (ls.take k).map fun r => if fit then letter3 r else r
def word (fit : Bool) (ls : List Int) : List Int := wordTo fit ls 60
theorem wordTo_succ (fit : Bool) (ls : List Int) (k : Nat) (h : k < ls.length) : wordTo fit ls (k + 1) = wordTo fit ls k ++ [if fit then letter3 (rd ls (k : Int)) else rd ls (k : Int)] := by
  unfold wordTo
  rw [List.take_succ_eq_append_getElem h, List.map_append]
  simp [rd, List.getD_eq_getElem?_getD, List.getElem?_eq_getElem h]
theorem wordTo_len (fit : Bool) (ls : List Int) (k : Nat) : (wordTo fit ls k).length ≤ k := by simp [wordTo]; omega
theorem word_l0 (fit : Bool) (ls : List Int) (hm : ls.length ≤ 9223372036854775807) (d : Nat) : ∀ k : Nat, k + d = 61 → k ≤ ls.length → k ≤ 60 → stanzalaw08_word.l0 (d + 1) fit (wordTo fit ls k) ls (ls.length : Int) (k : Int) = some (word fit ls) := by
  induction d with
  | zero => intro k h1 _ h3; omega
  | succ d ih =>
    intro k h1 h2 h3
    rw [stanzalaw08_word.l0]
    by_cases hk : k < ls.length
    · rw [if_pos (by omega), if_pos (by omega), if_pos (by omega)]
      by_cases h60 : 60 ≤ k
      · rw [if_pos (by omega), show k = 60 by omega]
        rfl
      · rw [if_neg (by omega)]
        have hlen := wordTo_len fit ls k
        have hs := wordTo_succ fit ls k hk
        have hi := ih (k + 1) (by omega) (by omega) (by omega)
        cases fit with
        | false =>
          rw [if_neg (by decide), if_pos (by omega), wrap_nat hk hm]
          simp only [Bool.false_eq_true, if_false] at hs
          rw [← hs]
          exact hi
        | true =>
          rw [if_pos rfl]
          simp only [Option.bind_some]
          rw [if_pos (Int.emod_nonneg _ (by decide)), if_pos (show rd ls (k : Int) % 4294967296 % 3 < (([97, 98, 99] : List Int).length : Int) from Int.emod_lt_of_pos _ (by decide)), if_pos (by omega), wrap_nat hk hm]
          simp only [if_true] at hs
          have : rd [97, 98, 99] (rd ls (k : Int) % 4294967296 % 3) = letter3 (rd ls (k : Int)) := rfl
          rw [this, ← hs]
          exact hi
    · rw [if_neg (by omega)]
      unfold word wordTo
      rw [List.take_of_length_le (by omega), List.take_of_length_le (by omega)]
theorem word_calls (A0 : Option Addr) (c0 : Nat) (ls : List Int) (fit : Bool) (w : World) (hr0 : Kd.C (Kd.int .i32) w A0 ls.length ls) (hc0 : ls.length ≤ c0) :
    Calls Try.prog 18 #[.slice A0 ls.length c0, .bool fit] w fun e w' => ∃ v, e = .returned v ∧ Kd.R (Kd.int .i32) 21 w' w.heap.size (fun _ => True) v (word fit ls) ∧ Below w.heap.size w w' := by
  refine stanzalaw08_word.calls 62 A0 c0 ls fit (word fit ls) w hr0 hc0 ?_
  have := word_l0 fit ls (Kd.C_max hr0) 61 0 rfl (by omega) (by omega)
  exact this
end Go.Proofs.Ytoefjhdcipgacaa.Lf
