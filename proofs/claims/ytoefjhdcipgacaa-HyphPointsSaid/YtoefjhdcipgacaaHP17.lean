/-
 Part 17 of what the law HyphPoints rests on: contracts of the functions that it calls, and plain laws of what they compute.
-/
import Derived.BigRegion
import Derived.Test.YtoefjhdcipgacaaHP6
import Derived.Test.YtoefjhdcipgacaaHP12
import Derived.Test.YtoefjhdcipgacaaHP13
import Derived.Test.YtoefjhdcipgacaaHP14
section
namespace Go.Proofs.Ytoefjhdcipgacaa.Tr
open Go.RowKit Go.Proofs.YtoefjhdcipgacaaW.PrintWords Go.Proofs.YtoefjhdcipgacaaW.PrintLast Go.Proofs.YtoefjhdcipgacaaW.PrintMore
open Go.Proofs.Ytoefjhdcipgacaa.PA
theorem mergeTo_le {xs vs : List Int} {B : Nat} (hx : xs.length ≤ B) (hv : vs.length ≤ B) : (mergeTo xs vs vs.length).length ≤ B := by
 rw [mergeTo_length]; omega
theorem TM.walk_vals (ls : List Int) : ∀ s : TM × Nat, (ls.foldl TM.step s).1.vals = s.1.vals := by
 induction ls with
 | nil => intro s; rfl
 | cons r ls ih =>
  intro s
  rw [List.foldl_cons, ih]
  unfold TM.step
  split <;> rfl
theorem make_vals_len (B : Nat) (l : List (List Int × List Int)) : ∀ T : TM, (∀ i, (T.vals i).length ≤ B) → (∀ p ∈ l, p.2.length ≤ B) → ∀ i, ((l.foldl TM.insert T).vals i).length ≤ B := by
 induction l with
 | nil => intro T h _; exact h
 | cons p l ih =>
  intro T h hp
  refine ih (T.insert p) (fun i => ?_) (fun q hq => hp q (List.mem_cons_of_mem _ hq))
  have hw : (T.walk p.1).1.vals = T.vals := TM.walk_vals p.1 (T, 0)
  show (if i = (T.walk p.1).2 then mergeTo ((T.walk p.1).1.vals (T.walk p.1).2) p.2 p.2.length else (T.walk p.1).1.vals i).length ≤ B
  rw [hw]
  split
  ·exact mergeTo_le (h _) (hp p (List.mem_cons_self ..))
  ·exact h i
def Few (p : S39) : Prop := p.f0.length ≤ 1000 ∧ p.f1.length ≤ 1000 ∧ (∀ r ∈ p.f0, In32 r) ∧ ∀ x ∈ p.f1, 0 ≤ x
def Fit (l : List S39) : Prop := l.length ≤ 1000 ∧ ∀ p ∈ l, Few p
theorem Fit.letters {l : List S39} (h : Fit l) : letters (l.map pq) ≤ 1099511627776 := by
 have key : ∀ l : List S39, (∀ p ∈ l, Few p) → Tr.letters (l.map pq) ≤ l.length * 1000 := by
  intro l
  induction l with
  | nil => intro _; exact Nat.zero_le _
  | cons p l ih =>
   intro h
   have h1 := ih (fun q hq => h q (List.mem_cons_of_mem _ hq))
   have h2 := (h p (List.mem_cons_self ..)).1
   simp only [Tr.letters, List.map_cons, List.sum_cons, List.length_cons, List.map_map] at h1 ⊢
   show p.f0.length + _ ≤ _
   omega
 have := key l h.2
 have := h.1
 omega
theorem Fit.nn {l : List S39} (h : Fit l) : ∀ p ∈ l.map pq, NN p.2 := by
 intro p hp
 obtain ⟨q, hq, rfl⟩ := List.mem_map.1 hp
 exact NN.of_mem (h.2 q hq).2.2.2
theorem Fit.vals {l : List S39} (h : Fit l) : ∀ i, ((make (l.map pq)).vals i).length ≤ 1099511627776 := by
 refine make_vals_len _ _ TM.init (fun i => Nat.zero_le _) (fun p hp => ?_)
 obtain ⟨q, hq, rfl⟩ := List.mem_map.1 hp
 have := (h.2 q hq).2.1
 show q.f1.length ≤ _
 omega
def Word (ls : List Int) : Prop := ls.length ≤ 1000 ∧ ∀ r ∈ ls, In32 r
theorem make_fit (l : List S39) (A : Option Addr) (c : Nat) (w : World) (hr : Kd.C k39 w A l.length l) (hc : l.length ≤ c) (h : Fit l) :
  Calls Try.prog 19 #[.slice A l.length c] w fun e w' => ∃ bt, e = .returned (.pointer (some ⟨bt, 0, none⟩)) ∧ TrieAt w' w.heap.size bt (make (l.map pq)) ∧ Below w.heap.size w w' :=
 make_calls l A c w hr hc (fun p hp => (h.2 p hp).2.2.1) h.letters (fun p hp => by have := (h.2 p hp).2.1; omega)
theorem values_fit (l : List S39) (base bt : Nat) (A : Option Addr) (c : Nat) (word : List Int) (w : World) (hT : TrieAt w base bt (make (l.map pq))) (hr : Kd.C (Kd.int .i32) w A word.length word) (hc : word.length ≤ c) (h : Fit l) (hw : Word word) :
  Calls Try.prog 20 #[.pointer (some ⟨bt, 0, none⟩), .slice A word.length c] w fun e w' => ∃ v, e = .returned v ∧ Kd.R (Kd.int .u8) 5 w' w.heap.size (fun _ => True) v (values (make (l.map pq)) word) ∧ Below w.heap.size w w' :=
 values_calls base bt _ A c word w hT hr hc hw.2 (by have := hw.1; omega) h.vals
theorem TrieAt.below {w w1 : World} {base bt : Nat} {T : TM} (h : TrieAt w base bt T) (hb : Below w.heap.size w w1) : TrieAt w1 base bt T := by
 obtain ⟨bn, cap, K, xs, ms, vs, hK, h⟩ := h
 exact ⟨bn, cap, K, xs, ms, vs, hK, h.below hb⟩
end Go.Proofs.Ytoefjhdcipgacaa.Tr
end
section
namespace Go.Proofs.Ytoefjhdcipgacaa.Hy
open Go.RowKit Go.Proofs.YtoefjhdcipgacaaW.PrintWords Go.Proofs.YtoefjhdcipgacaaW.PrintLast Go.Proofs.YtoefjhdcipgacaaW.PrintMore
open Go.Proofs.Ytoefjhdcipgacaa.PA
attribute [local go_sem] max2_int min2_int max_two min_two
structure HyphAt (w : World) (b : Nat) (ls : List S63) (T : Tr.TM) (ws : List S39) (left right : Int) (La : Option Addr) (Lc bt base : Nat) (Wa : Option Addr) (Wc : Nat) : Prop where
 blk : w.heap[b]? = some (.cells #[.slice La ls.length Lc, .pointer (some ⟨bt, 0, none⟩), .slice Wa ws.length Wc, .int .i64 left, .int .i64 right] 95 (0, 0))
 lets : Kd.C k63 w La ls.length ls
 trie : Tr.TrieAt w base bt T
 words : Kd.C k39 w Wa ws.length ws
 cap : ws.length ≤ Wc
theorem HyphAt.below {w w1 : World} {b : Nat} {ls : List S63} {T : Tr.TM} {ws : List S39} {left right : Int} {La : Option Addr} {Lc bt base : Nat} {Wa : Option Addr} {Wc : Nat} (h : HyphAt w b ls T ws left right La Lc bt base Wa Wc) (hb : Below w.heap.size w w1) :
  HyphAt w1 b ls T ws left right La Lc bt base Wa Wc := ⟨blk_below h.blk hb, Kd.C_below h.lets hb, h.trie.below hb, Kd.C_below h.words hb, h.cap⟩
set_option maxHeartbeats 4000000 in
set_option maxRecDepth 100000 in
theorem hi_calls (j : Nat) (b2 b3 b : Nat) (r : Int) (ls : List S63) (La : Option Addr) (Lc : Nat) (v1 v2 v3 v4 : Value) (w : World) (hj : j < ls.length) (h2 : w.heap[b2]? = some (.cells #[.pointer (some ⟨b, 0, none⟩)] 43 (0, 0))) (h3 : w.heap[b3]? = some (.cells #[.int .i32 r] 21 (0, 0)))
  (hb : w.heap[b]? = some (.cells #[.slice La ls.length Lc, v1, v2, v3, v4] 95 (0, 0))) (hl : Kd.C k63 w La ls.length ls) :
  Calls Try.prog 49 #[.int .i64 (j : Int), .pointer (some ⟨b2, 0, none⟩), .pointer (some ⟨b3, 0, none⟩)] w fun e w' => e = .returned (.bool (decide (r ≤ (rd_T63 ls (j : Int)).f1))) ∧ ∃ nd, w' = w.drewN nd := by
 obtain ⟨ad, e1, hx0, hx1, hx2⟩ := at_T63 hl (j : Int) (by omega) (by omega)
 subst e1
 rw [Int.toNat_natCast] at hx0 hx1 hx2
 have q2 : w.cell? ⟨b2, 0, none⟩ = some (.pointer (some ⟨b, 0, none⟩)) := by rw [blk_cell h2 0]; rfl
 have q3 : w.cell? ⟨b3, 0, none⟩ = some (.int .i32 r) := by rw [blk_cell h3 0]; rfl
 have q4 : w.cell? ⟨b, 0, none⟩ = some (.slice (some ad) ls.length Lc) := by rw [blk_cell hb 0]; rfl
 have p1 : (0 : Int) ≤ (j : Int) := by omega
 have q1 : (j : Int) < (ls.length : Int) := by omega
 clear h2 h3 hb hl
 go_enter Try.func49, Try.ntmps49
 go_wp2_with fail
 go_region
 all_goals go_wp2_with fail
 all_goals go_ret
 all_goals exact ⟨rfl, 1, rfl⟩
end Go.Proofs.Ytoefjhdcipgacaa.Hy
end
