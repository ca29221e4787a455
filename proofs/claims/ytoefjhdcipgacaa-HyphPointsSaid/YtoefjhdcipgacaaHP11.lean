/-
 Part 11 of what the law HyphPoints rests on: contracts of the functions that it calls, and plain laws of what they compute.
-/
import Derived.ChangeSlices
import Derived.ChangeSame
import Derived.ChangeArms
import Derived.Deep.Slices
import Derived.Test.YtoefjhdcipgacaaHP6
section
namespace Go.Proofs.Ytoefjhdcipgacaa.Op
open Go.RowKit Go.Proofs.YtoefjhdcipgacaaW.PrintWords Go.Proofs.YtoefjhdcipgacaaW.PrintLast Go.Proofs.YtoefjhdcipgacaaW.PrintMore
open Go.Proofs.Ytoefjhdcipgacaa.PA
open Go.Deep (open_slice)
open Go.ChangeShapes (trod_struct2)
theorem addr_add_add (a : Addr) (x y : Nat) : (a.add x).add y = a.add (x + y) := by
 unfold Addr.add
 by_cases hx : x = 0
 ·subst hx
  simp
 ·by_cases hy : y = 0
  ·subst hy
   simp [hx]
  ·simp [hx, hy, Nat.add_assoc]
def Opens (P : Program) (t : TypeId) {α : Type} (d : Kd α) (Q : α → Prop) : Prop :=
 ∀ (H : Type) (enc : TypeId × Value → H) (W : World) (base : Nat) (sp : Nat → Bool) (held : Bool) (fuel : Nat) (cs : List Value) (x : DataW H × List MemPlace),
  DataW.trod enc P W base sp held fuel t cs = some x → ∃ a, d.K W a cs ∧ Q a
theorem Opens.int {P : Program} {t : TypeId} {k : IntKind} (h : P.underlying t = some (.int k)) : Opens P t (Kd.int k) (fun n => (Lit.int k n).wf = true) := by
 intro H enc W base sp held fuel cs x hx
 obtain ⟨n, rfl, _, hw⟩ := DataW.trod_int h hx
 exact ⟨n, rfl, hw⟩
theorem Opens.slice {P : Program} {t e : TypeId} {α : Type} {d : Kd α} {Q : α → Prop} (h : P.underlying t = some (.slice e)) (hsz : P.cellsOf e = d.sz) (he : Opens P e d Q) :
  Opens P t (Kd.slice e d) (fun xs => (∀ a ∈ xs, Q a) ∧ xs.length ≤ maxLen) := by
 intro H enc W base sp held fuel cs x hx
 rcases open_slice h hx with ⟨rfl, _⟩ | ⟨a, len, cap, m, n, D, Pl, rfl, hb, hl, hm, hmm, rfl, hi⟩
 ·exact ⟨[], ⟨none, 0, rfl, Nat.le_refl _, rfl, Nat.zero_le _, fun h => absurd h (Nat.lt_irrefl _)⟩, by simp, Nat.zero_le _⟩
 ·have hlm : len ≤ m := by rw [hmm]; split <;> omega
  have hex : ∀ i : Nat, ∃ q : Option α, i < len → ∃ a', q = some a' ∧ Q a' ∧ ∃ cs', W.cells? base (a.add (i * P.cellsOf e)) (P.cellsOf e) = some cs' ∧ d.K W a' cs' := by
   intro i
   by_cases hil : i < len
   ·obtain ⟨cs', h1, h2⟩ := hi i (by omega)
    obtain ⟨a', h3, h4⟩ := he H enc W base sp held n cs' _ h2
    exact ⟨some a', fun _ => ⟨a', rfl, h4, cs', h1, h3⟩⟩
   ·exact ⟨none, fun h => absurd h hil⟩
  obtain ⟨q, hq⟩ := Classical.axiomOfChoice hex
  have hlen : ((List.range len).filterMap q).length = len ∧ ∀ j, j < len → ((List.range len).filterMap q)[j]? = q j := by
   have key : ∀ k, k ≤ len → ((List.range k).filterMap q).length = k ∧ ∀ j, j < k → ((List.range k).filterMap q)[j]? = q j := by
    intro k
    induction k with
    | zero => intro _; exact ⟨rfl, fun j hj => absurd hj (Nat.not_lt_zero _)⟩
    | succ k ih =>
     intro hk
     obtain ⟨h1, h2⟩ := ih (by omega)
     obtain ⟨a', ha, _⟩ := hq k (by omega)
     have e : (List.range (k + 1)).filterMap q = (List.range k).filterMap q ++ [a'] := by
      rw [List.range_succ, List.filterMap_append]
      simp [ha]
     rw [e]
     refine ⟨by simp [h1], fun j hj => ?_⟩
     by_cases hjk : j < k
     ·rw [List.getElem?_append_left (by omega)]
      exact h2 j hjk
     ·obtain rfl : j = k := by omega
      rw [List.getElem?_append_right (by omega), h1, Nat.sub_self, ha]
      rfl
   exact key len (Nat.le_refl _)
  have hmx : maxLen ≤ 9223372036854775807 := by decide
  refine ⟨(List.range len).filterMap q, ⟨some a, cap, by rw [hlen.1], by rw [hlen.1]; exact hl, rfl, by rw [hlen.1]; omega, fun _ => ⟨a, rfl, fun j p hj => ?_⟩⟩, ?_, by rw [hlen.1]; omega⟩
  ·have hjl : j < len := by
    obtain ⟨h0, _⟩ := List.getElem?_eq_some_iff.1 hj
    rw [hlen.1] at h0
    exact h0
   rw [hlen.2 j hjl] at hj
   obtain ⟨a', ha, _, cs', h1, h2⟩ := hq j hjl
   rw [hj] at ha
   obtain rfl := Option.some.inj ha
   obtain ⟨_, hl1, hc1⟩ := World.cells?_some h1
   refine ⟨cs', d.K_len h2, h2, fun i u hu => ?_⟩
   have hil : i < P.cellsOf e := by
    obtain ⟨h0, _⟩ := List.getElem?_eq_some_iff.1 hu
    omega
   have := hc1 i hil
   rw [hsz] at this
   rw [hu] at this
   rw [← this]
   show W.cell? _ = W.cell? _
   congr 1
   exact (addr_add_add a _ _).symm
  ·intro y hy
   obtain ⟨i, hi1, hi2⟩ := List.mem_filterMap.1 hy
   obtain ⟨a', ha, hQ, _⟩ := hq i (List.mem_range.1 hi1)
   rw [hi2] at ha
   obtain rfl := Option.some.inj ha
   exact hQ
theorem Opens.iso {P : Program} {t : TypeId} {α β : Type} {d : Kd α} {Q : α → Prop} (h : Opens P t d Q) (f : β → α) (g : α → β) (hg : ∀ a, f (g a) = a) : Opens P t (Kd.iso d f) (fun b => Q (f b)) := by
 intro H enc W base sp held fuel cs x hx
 obtain ⟨a, ha, qa⟩ := h _ _ _ _ _ _ _ _ _ hx
 exact ⟨g a, by show d.K W (f (g a)) cs; rw [hg]; exact ha, by show Q (f (g a)); rw [hg]; exact qa⟩
theorem Opens.imp {P : Program} {t : TypeId} {α : Type} {d : Kd α} {Q Q' : α → Prop} (h : Opens P t d Q) (hQ : ∀ a, Q a → Q' a) : Opens P t d Q' := by
 intro H enc W base sp held fuel cs x hx
 obtain ⟨a, ha, qa⟩ := h _ _ _ _ _ _ _ _ _ hx
 exact ⟨a, ha, hQ a qa⟩
theorem Opens.row {P : Program} {t e : TypeId} {α : Type} {d : Kd α} {Q : List α → Prop} (h : Opens P t (Kd.slice e d) Q) {H : Type} {enc : TypeId × Value → H} {W : World} {base : Nat} {sp : Nat → Bool} {held : Bool}
  {A : Option Addr} {len cap : Nat} {y : DataW H} {ps : List MemPlace} (hx : DataW.Trod enc P W base sp held t (.slice A len cap) y ps) :
  ∃ xs : List α, len = xs.length ∧ xs.length ≤ cap ∧ Kd.C d W A xs.length xs ∧ Q xs := by
 obtain ⟨fuel, hf⟩ := hx
 obtain ⟨xs, ⟨A', c', he, hl, hc⟩, hq⟩ := h _ _ _ _ _ _ _ _ _ hf
 have he' : [Value.slice A len cap] = [Value.slice A' xs.length c'] := he
 injection he' with he' _
 injection he' with h1 h2 h3
 subst h1
 subst h2
 subst h3
 exact ⟨xs, rfl, hl, hc, hq⟩
end Go.Proofs.Ytoefjhdcipgacaa.Op
end
