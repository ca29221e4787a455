/-
 Part 8 of what the law HyphPoints rests on: contracts of the functions that it calls, and plain laws of what they compute.
-/
import Derived.Laws.IdiomStrings
import Derived.Laws.BitsLemmas
import Derived.Test.YtoefjhdcipgacaaHP6
import Derived.Test.YtoefjhdcipgacaaHP7
section
namespace Go.Proofs.Ytoefjhdcipgacaa.PA
open Go.RowKit Go.Proofs.YtoefjhdcipgacaaW.PrintWords Go.Proofs.YtoefjhdcipgacaaW.PrintLast Go.Proofs.YtoefjhdcipgacaaW.PrintMore
def bytesOf (s : ByteArray) : List Int := s.data.toList.map fun b => (b.toNat : Int)
theorem bytesOf_length (s : ByteArray) : (bytesOf s).length = s.size := by
 rw [bytesOf, List.length_map]
 rfl
def convW (w : World) (s : ByteArray) : World := w.drew.alloc (.cells (bytesRow s (grownCap w s.size 0 5)) 5 ((bytesRow s (grownCap w s.size 0 5)).size, (bytesRow s (grownCap w s.size 0 5)).size + 1))
theorem conv_C (w : World) (s : ByteArray) (hs : s.size ≤ 9223372036854775807) : Kd.C (Kd.int .u8) (convW w s) (some ⟨w.heap.size, 0, none⟩) (bytesOf s).length (bytesOf s) := by
 refine ⟨rfl, by rw [bytesOf_length]; exact hs, fun _ => ⟨_, rfl, fun j p hj => ?_⟩⟩
 refine ⟨[.int .u8 p], rfl, rfl, fun i u hu => ?_⟩
 have hi : i = 0 := by
  obtain ⟨h, _⟩ := List.getElem?_eq_some_iff.1 hu
  simp at h
  omega
 subst hi
 injection hu with hu
 subst hu
 rw [bytesOf, List.getElem?_map] at hj
 obtain ⟨b, hb, rfl⟩ := Option.map_eq_some_iff.1 hj
 obtain ⟨hlt, hb⟩ := List.getElem?_eq_some_iff.1 hb
 have hlt' : j < s.data.size := by simpa using hlt
 have hrow := bytesRow_at s (grownCap w s.size 0 5) j hlt'
 have hh : (convW w s).heap[w.heap.size]? = some (.cells (bytesRow s (grownCap w s.size 0 5)) 5 ((bytesRow s (grownCap w s.size 0 5)).size, (bytesRow s (grownCap w s.size 0 5)).size + 1)) := blk_new w.drew _
 have hc := cell_of_row (convW w s) w.heap.size j _ 5 _ hh
 have e : (⟨w.heap.size, 0, none⟩ : Addr).add (j * 1 + 0) = ⟨w.heap.size, j, none⟩ := by
  unfold Addr.add
  by_cases h0 : j = 0
  ·subst h0; rfl
  ·simp [h0]
 show (convW w s).cell? ((⟨w.heap.size, 0, none⟩ : Addr).add (j * 1 + 0)) = _
 rw [e, hc, hrow]
 have : s.data[j] = b := by simpa using hb
 rw [this]
theorem allStr_calls (k : Nat) (s : ByteArray) (r : List (S66)) (w : World) (hs : s.size ≤ 9223372036854775807) (hc : s.size ≤ grownCap w s.size 0 5) (h : stanzaref01_All.f k (bytesOf s) = some r) :
  Calls Try.prog 28 #[.slice (some ⟨w.heap.size, 0, none⟩) s.size (grownCap w s.size 0 5)] (w.drew.alloc (.cells (bytesRow s (grownCap w s.size 0 5)) 5 ((bytesRow s (grownCap w s.size 0 5)).size, (bytesRow s (grownCap w s.size 0 5)).size + 1)))
   fun e w' => ∃ v0_ : Value, e = .returned (v0_) ∧ Kd.R k66 66 w' (w.drew.alloc (.cells (bytesRow s (grownCap w s.size 0 5)) 5 ((bytesRow s (grownCap w s.size 0 5)).size, (bytesRow s (grownCap w s.size 0 5)).size + 1))).heap.size (fun _ => True) v0_ r ∧ Below (w.drew.alloc (.cells (bytesRow s (grownCap w s.size 0 5)) 5 ((bytesRow s (grownCap w s.size 0 5)).size, (bytesRow s (grownCap w s.size 0 5)).size + 1))).heap.size (w.drew.alloc (.cells (bytesRow s (grownCap w s.size 0 5)) 5 ((bytesRow s (grownCap w s.size 0 5)).size, (bytesRow s (grownCap w s.size 0 5)).size + 1))) w' := by
 have := stanzaref01_All.calls k (some ⟨w.heap.size, 0, none⟩) (grownCap w s.size 0 5) (bytesOf s) r (convW w s) (conv_C w s hs) (by rw [bytesOf_length]; exact hc) h
 rw [bytesOf_length] at this
 exact this
end Go.Proofs.Ytoefjhdcipgacaa.PA
end
section
namespace Go.Proofs.Ytoefjhdcipgacaa.Dec
open Go.RowKit Go.Proofs.YtoefjhdcipgacaaW.PrintWords Go.Proofs.YtoefjhdcipgacaaW.PrintLast Go.Proofs.YtoefjhdcipgacaaW.PrintMore
open Go.Proofs.Ytoefjhdcipgacaa.PA
theorem mono_le {α : Type} {f : Nat → Option α} (hm : ∀ k, LeO (f k) (f (k + 1))) {r : α} {a : Nat} (h : f a = some r) : ∀ k, a ≤ k → f k = some r := by
 intro k hk
 induction k with
 | zero => rw [← Nat.le_zero.1 hk]; exact h
 | succ k ih =>
  rcases Nat.lt_or_ge k a with h1 | h1
  ·rw [show k + 1 = a by omega]; exact h
  ·exact hm k r (ih h1)
theorem w64 (n : Int) (h : -9223372036854775808 ≤ n ∧ n ≤ 9223372036854775807) : wrap64 n = n := by unfold wrap64; omega
theorem w32 (n : Int) (h : -2147483648 ≤ n ∧ n ≤ 2147483647) : wrap32 n = n := by unfold wrap32; omega
def IsBytes (l : List Int) : Prop := ∀ b ∈ l, 0 ≤ b ∧ b < 256
theorem IsBytes.rd {l : List Int} (h : IsBytes l) (i : Int) : 0 ≤ rd l i ∧ rd l i < 256 := by
 rw [Go.Proofs.YtoefjhdcipgacaaW.PrintWords.rd]
 rcases Nat.lt_or_ge i.toNat l.length with h1 | h1
 ·rw [List.getD_eq_getElem?_getD, List.getElem?_eq_getElem h1]
  exact h _ (List.getElem_mem h1)
 ·rw [List.getD_eq_getElem?_getD, List.getElem?_eq_none h1]
  exact ⟨Int.le_refl _, by decide⟩
theorem isBytes_of (s : ByteArray) : IsBytes (PA.bytesOf s) := by
 intro b hb
 obtain ⟨x, _, rfl⟩ := List.mem_map.1 hb
 exact ⟨by omega, by have := x.toNat_lt; omega⟩
def lo (c : Int) : Int := if c = 224 then 160 else if c = 240 then 144 else 128
def hi (c : Int) : Int := if c = 237 then 159 else if c = 244 then 143 else 191
def inB (l : List Int) (i a b : Int) : Prop := i < (l.length : Int) ∧ a ≤ rd l i ∧ rd l i ≤ b
instance (l : List Int) (i a b : Int) : Decidable (inB l i a b) := by unfold inB; infer_instance
def head (c : Int) : Int := if c < 224 then c % 32 else if c < 240 then c % 16 else c % 8
def dec (l : List Int) (at_ : Int) : Int × Int :=
 let c := rd l at_
 if c < 128 then (c, 1) else if c < 194 ∨ 244 < c then (65533, 1)
 else if ¬ inB l (at_ + 1) (lo c) (hi c) then (65533, 1)
 else if c < 224 then (head c * 64 + (rd l (at_ + 1) - 128), 2)
 else if ¬ inB l (at_ + 2) 128 191 then (65533, 2)
 else if c < 240 then ((head c * 64 + (rd l (at_ + 1) - 128)) * 64 + (rd l (at_ + 2) - 128), 3)
 else if ¬ inB l (at_ + 3) 128 191 then (65533, 3)
 else (((head c * 64 + (rd l (at_ + 1) - 128)) * 64 + (rd l (at_ + 2) - 128)) * 64 + (rd l (at_ + 3) - 128), 4)
theorem lo_ge (c : Int) : 128 ≤ lo c := by unfold lo; split <;> (try split) <;> decide
theorem hi_le (c : Int) : hi c ≤ 191 := by unfold hi; split <;> (try split) <;> decide
theorem head_bd (c : Int) : 0 ≤ head c ∧ head c < 32 := by unfold head; split <;> (try split) <;> omega
theorem dec_len (l : List Int) (at_ : Int) : 1 ≤ (dec l at_).2 ∧ (dec l at_).2 ≤ 4 := by
 unfold dec
 dsimp only
 repeat' split
 all_goals (constructor <;> simp)
theorem dec_in {l : List Int} (h : IsBytes l) (at_ : Int) : 0 ≤ (dec l at_).1 ∧ (dec l at_).1 < 16777216 := by
 have h0 := h.rd at_
 have h1 := h.rd (at_ + 1)
 have h2 := h.rd (at_ + 2)
 have h3 := h.rd (at_ + 3)
 have hh := head_bd (rd l at_)
 have hl := lo_ge (rd l at_)
 have hu := hi_le (rd l at_)
 unfold dec
 dsimp only
 repeat' split
 all_goals (simp only [inB] at *; omega)
section
variable {l : List Int} {at_ n a b acc i r0 r1 r2 : Int} {k : Nat}
theorem l0_end (h : ¬ i < n) : scal_One.l0 (k + 1) l at_ n a b acc i r0 r1 r2 = some (acc, r1, r2) := by
 simp only [scal_One.l0, if_neg h]
theorem l0_bad (h : i < n) (h0 : 0 ≤ at_) (hs : at_ ≤ 100000) (hi0 : 1 ≤ i) (hi1 : i ≤ 4) (hb : ¬ inB l (at_ + i) a b) : scal_One.l0 (k + 1) l at_ n a b acc i r0 r1 r2 = some (r0, r1, r2) := by
 simp only [scal_One.l0, if_pos h]
 have hw : wrap64 (at_ + i) = at_ + i := w64 _ ⟨by omega, by omega⟩
 rw [hw]
 by_cases h1 : at_ + i ≥ (l.length : Int)
 ·rw [if_pos h1]
 ·rw [if_neg h1, if_pos (by omega), if_pos (by omega)]
  by_cases h2 : rd l (at_ + i) < a
  ·rw [if_pos h2]
  ·rw [if_neg h2, if_pos (by simp only [inB, not_and] at hb; have := hb (by omega) (by omega); omega)]
theorem l0_step (hl : IsBytes l) (h : i < n) (h0 : 0 ≤ at_) (hs : at_ ≤ 100000) (hi0 : 1 ≤ i) (hi1 : i ≤ 4) (hb : inB l (at_ + i) a b) (ha : 128 ≤ a) (hbb : b ≤ 191) (hacc : 0 ≤ acc ∧ acc < 1048576) :
  scal_One.l0 (k + 1) l at_ n a b acc i r0 r1 r2 = scal_One.l0 k l at_ n 128 191 (acc * 64 + (rd l (at_ + i) - 128)) (i + 1) r0 r1 (i + 1) := by
 simp only [scal_One.l0, if_pos h]
 have hw : wrap64 (at_ + i) = at_ + i := w64 _ ⟨by omega, by omega⟩
 have hw1 : wrap64 (i + 1) = i + 1 := w64 _ ⟨by omega, by omega⟩
 obtain ⟨h1, h2, h3⟩ := hb
 rw [hw, hw1, if_neg (by omega), if_pos (by omega), if_pos h1, if_neg (by omega), if_neg (by omega)]
 have hr := hl.rd (at_ + i)
 rw [Go.u8_and63 _ hr.1 hr.2]
 have e1 : wrap32 (acc * 64) = acc * 64 := w32 _ ⟨by omega, by omega⟩
 have e2 : wrap32 (rd l (at_ + i) % 64) = rd l (at_ + i) % 64 := w32 _ ⟨by omega, by omega⟩
 rw [e1, e2, Go.i32_or6 _ _ (by omega) (by omega) (by omega) (by omega) (by omega)]
 rw [show acc * 64 + rd l (at_ + i) % 64 = acc * 64 + (rd l (at_ + i) - 128) by omega]
end
theorem need_eq (c : Int) (k : Nat) : scal_need.f (k + 1) c = some (if c < 128 then (1, 0, 0) else if c < 194 ∨ 244 < c then (0, 0, 0) else if c < 224 then (2, lo c, hi c) else if c < 240 then (3, lo c, hi c) else (4, lo c, hi c)) := by
 have h : ∀ b : Bool, scal_need.j0 (k + 1) c b = if b = true then some (0, 0, 0) else (if c < 224 then some (2, 128, 191) else (if c = 224 then some (3, 160, 191) else (if c = 237 then some (3, 128, 159) else (if c < 240 then some (3, 128, 191) else (if c = 240 then some (4, 144, 191) else (if c = 244 then some (4, 128, 143) else some (4, 128, 191))))))) := fun b => rfl
 unfold scal_need.f
 rw [h, h, if_pos rfl]
 simp only [decide_eq_true_eq]
 by_cases c1 : c < 128
 ·rw [if_pos c1, if_pos c1]
 rw [if_neg c1, if_neg c1]
 by_cases c2 : c < 194
 ·rw [if_pos c2, if_pos (Or.inl c2)]
 rw [if_neg c2]
 by_cases c3 : c > 244
 ·rw [if_pos c3, if_pos (Or.inr c3)]
 rw [if_neg c3, if_neg (show ¬ (c < 194 ∨ 244 < c) by omega)]
 by_cases c4 : c < 224
 ·rw [if_pos c4, if_pos c4]
  unfold lo hi
  rw [if_neg (by omega), if_neg (by omega), if_neg (by omega), if_neg (by omega)]
 rw [if_neg c4, if_neg c4]
 by_cases c5 : c = 224
 ·subst c5; rfl
 rw [if_neg c5]
 by_cases c6 : c = 237
 ·subst c6; rfl
 rw [if_neg c6]
 by_cases c7 : c < 240
 ·rw [if_pos c7, if_pos c7]
  unfold lo hi
  rw [if_neg (by omega), if_neg (by omega), if_neg (by omega), if_neg (by omega)]
 rw [if_neg c7, if_neg c7]
 by_cases c8 : c = 240
 ·subst c8; rfl
 rw [if_neg c8]
 by_cases c9 : c = 244
 ·subst c9; rfl
 rw [if_neg c9]
 unfold lo hi
 rw [if_neg c5, if_neg c8, if_neg c6, if_neg c9]
theorem and_mask (c : Int) (i : Nat) (hi : i ≤ 31) (h0 : 0 ≤ c) (h1 : c < 256) : Go.bits .and .i32 c ((2 : Int) ^ i - 1) = c % 2 ^ i :=
 Go.bits_mask .i32 31 (by decide) Go.wraps_i32 i hi c h0 (by omega)
theorem one_eq {l : List Int} (hl : IsBytes l) (at_ : Int) (h0 : 0 ≤ at_) (h1 : at_ < (l.length : Int)) (hs : l.length ≤ 100000) (k : Nat) : scal_One.f (k + 8) l at_ = some ((dec l at_).1, at_, (dec l at_).2) := by
 have hr := hl.rd at_
 have hw : wrap32 (rd l at_) = rd l at_ := w32 _ ⟨by omega, by omega⟩
 have e : scal_One.f (k + 8) l at_ = scal_One.j0 (k + 8) l at_ false := by
  unfold scal_One.f
  rw [if_neg (by omega), decide_eq_false (by omega)]
 rw [e]
 simp only [scal_One.j0, if_pos h0, if_pos h1, need_eq, Option.bind_some, hw, Bool.false_eq_true, if_false]
 have hlo := lo_ge (rd l at_)
 have hhi := hi_le (rd l at_)
 unfold dec
 dsimp only
 by_cases c1 : rd l at_ < 128
 ·simp [c1]
 by_cases c2 : rd l at_ < 194 ∨ 244 < rd l at_
 ·simp [c1, c2]
 simp only [if_neg c1, if_neg c2]
 have e2 : shr .i32 127 2 = 2 ^ 5 - 1 := by decide
 have e3 : shr .i32 127 3 = 2 ^ 4 - 1 := by decide
 have e4 : shr .i32 127 4 = 2 ^ 3 - 1 := by decide
 by_cases c3 : rd l at_ < 224
 ·simp only [if_pos c3, e2, and_mask _ 5 (by decide) hr.1 hr.2]
  rw [if_neg (by decide), if_pos (by decide)]
  by_cases b1 : inB l (at_ + 1) (lo (rd l at_)) (hi (rd l at_))
  ·rw [l0_step hl (by decide) h0 (by omega) (by decide) (by decide) b1 hlo hhi (by omega), l0_end (by decide)]
   simp only [not_true_eq_false, if_false, b1, head, if_pos c3]
   rfl
  ·rw [l0_bad (by decide) h0 (by omega) (by decide) (by decide) b1]
   simp only [b1, not_false_eq_true, if_true]
 by_cases c4 : rd l at_ < 240
 ·simp only [if_neg c3, if_pos c4, e3, and_mask _ 4 (by decide) hr.1 hr.2]
  rw [if_neg (by decide), if_pos (by decide)]
  by_cases b1 : inB l (at_ + 1) (lo (rd l at_)) (hi (rd l at_))
  ·have g1 := hl.rd (at_ + 1)
   have b1' := b1
   obtain ⟨_, x1, x2⟩ := b1'
   rw [l0_step hl (by decide) h0 (by omega) (by decide) (by decide) b1 hlo hhi (by omega)]
   by_cases b2 : inB l (at_ + 2) 128 191
   ·rw [show (1 : Int) + 1 = 2 from rfl, l0_step hl (by decide) h0 (by omega) (by decide) (by decide) b2 (by decide) (by decide) (by omega), l0_end (by decide)]
    simp only [not_true_eq_false, if_false, b1, b2, head, if_neg c3, if_pos c4]
    rfl
   ·rw [show (1 : Int) + 1 = 2 from rfl, l0_bad (by decide) h0 (by omega) (by decide) (by decide) b2]
    simp only [b1, b2, not_true_eq_false, not_false_eq_true, if_true, if_false]
  ·rw [l0_bad (by decide) h0 (by omega) (by decide) (by decide) b1]
   simp only [b1, not_false_eq_true, if_true]
 ·simp only [if_neg c3, if_neg c4, e4, and_mask _ 3 (by decide) hr.1 hr.2]
  rw [if_neg (by decide), if_pos (by decide)]
  by_cases b1 : inB l (at_ + 1) (lo (rd l at_)) (hi (rd l at_))
  ·have g1 := hl.rd (at_ + 1)
   have b1' := b1
   obtain ⟨_, x1, x2⟩ := b1'
   rw [l0_step hl (by decide) h0 (by omega) (by decide) (by decide) b1 hlo hhi (by omega)]
   by_cases b2 : inB l (at_ + 2) 128 191
   ·have g2 := hl.rd (at_ + 2)
    have b2' := b2
    obtain ⟨_, x3, x4⟩ := b2'
    rw [show (1 : Int) + 1 = 2 from rfl, l0_step hl (by decide) h0 (by omega) (by decide) (by decide) b2 (by decide) (by decide) (by omega)]
    by_cases b3 : inB l (at_ + 3) 128 191
    ·rw [show (2 : Int) + 1 = 3 from rfl, l0_step hl (by decide) h0 (by omega) (by decide) (by decide) b3 (by decide) (by decide) (by omega), l0_end (by decide)]
     simp only [not_true_eq_false, if_false, b1, b2, b3, head, if_neg c3, if_neg c4]
     rfl
    ·rw [show (2 : Int) + 1 = 3 from rfl, l0_bad (by decide) h0 (by omega) (by decide) (by decide) b3]
     simp only [b1, b2, b3, not_true_eq_false, not_false_eq_true, if_true, if_false]
   ·rw [show (1 : Int) + 1 = 2 from rfl, l0_bad (by decide) h0 (by omega) (by decide) (by decide) b2]
    simp only [b1, b2, not_true_eq_false, not_false_eq_true, if_true, if_false]
  ·rw [l0_bad (by decide) h0 (by omega) (by decide) (by decide) b1]
   simp only [b1, not_false_eq_true, if_true]
end Go.Proofs.Ytoefjhdcipgacaa.Dec
end
section
namespace Go.Proofs.Ytoefjhdcipgacaa.Hy
open Go.RowKit Go.Proofs.YtoefjhdcipgacaaW.PrintWords Go.Proofs.YtoefjhdcipgacaaW.PrintLast Go.Proofs.YtoefjhdcipgacaaW.PrintMore
section
variable {P : Program}
theorem cut_max (t e : TypeId) (kl kh km : IntKind) {i : TypeInfo} (ht : P.underlying t = some (.slice e)) (hi : P.info? e = some i) (size : Nat) (hsz : i.size = size) (A : Option Addr) (n c : Nat) (lo hi' : Int) (h0 : 0 ≤ lo) (h1 : lo ≤ hi') (h2 : hi' ≤ n) (hc : n ≤ c) :
  ∀ W : World, (Instr.slice t (.slice A n c) (some (.int kl lo)) (some (.int kh hi')) (some (.int km hi'))).run P W = .ok (.slice (if hi'.toNat = lo.toNat then A else A.map (·.add (lo.toNat * size))) (hi'.toNat - lo.toNat) (hi'.toNat - lo.toNat)) W := by
 intro W
 have hel : P.elem t = e := by simp [Program.elem, ht]
 have hu : P.underlying t = some (.slice (P.elem t)) := by rw [hel]; exact ht
 rw [run_slice_lhm W t A n c hu kl kh km lo hi' hi' h0 h1 (by omega) (by omega), hel]
 simp [sizeOf, typeInfo, hi, hsz, sliced, Result.andThen]
end
theorem C_max {α : Type} {k : Kd α} {w : World} {A : Option Addr} {xs : List α} {lo hi : Nat} (h : k.C w A xs.length xs) (h1 : lo ≤ hi) (h2 : hi ≤ xs.length) : k.C w (if hi = lo then A else A.map (·.add (lo * k.sz))) ((xs.take hi).drop lo).length ((xs.take hi).drop lo) := by
 have hl : (xs.take hi).length = hi := by rw [List.length_take]; omega
 exact Kd.C_drop (Kd.C_take h h2) (by omega) (by omega)
end Go.Proofs.Ytoefjhdcipgacaa.Hy
namespace Go.Proofs.Ytoefjhdcipgacaa.PA
open Go.RowKit Go.Proofs.YtoefjhdcipgacaaW.PrintWords Go.Proofs.YtoefjhdcipgacaaW.PrintLast Go.Proofs.YtoefjhdcipgacaaW.PrintMore
theorem allStrS_calls (k : Nat) (s : ByteArray) (r : List (S66)) (w : World) (hs : s.size ≤ 9223372036854775807) (hc : s.size ≤ grownCap w s.size 0 5) (h : scal_All.f k (bytesOf s) = some r) :
  Calls Try.prog 50 #[.slice (some ⟨w.heap.size, 0, none⟩) s.size (grownCap w s.size 0 5)] (w.drew.alloc (.cells (bytesRow s (grownCap w s.size 0 5)) 5 ((bytesRow s (grownCap w s.size 0 5)).size, (bytesRow s (grownCap w s.size 0 5)).size + 1)))
   fun e w' => ∃ v0_ : Value, e = .returned (v0_) ∧ Kd.R k66 66 w' (w.drew.alloc (.cells (bytesRow s (grownCap w s.size 0 5)) 5 ((bytesRow s (grownCap w s.size 0 5)).size, (bytesRow s (grownCap w s.size 0 5)).size + 1))).heap.size (fun _ => True) v0_ r ∧ Below (w.drew.alloc (.cells (bytesRow s (grownCap w s.size 0 5)) 5 ((bytesRow s (grownCap w s.size 0 5)).size, (bytesRow s (grownCap w s.size 0 5)).size + 1))).heap.size (w.drew.alloc (.cells (bytesRow s (grownCap w s.size 0 5)) 5 ((bytesRow s (grownCap w s.size 0 5)).size, (bytesRow s (grownCap w s.size 0 5)).size + 1))) w' := by
 have := scal_All.calls k (some ⟨w.heap.size, 0, none⟩) (grownCap w s.size 0 5) (bytesOf s) r (convW w s) (conv_C w s hs) (by rw [bytesOf_length]; exact hc) h
 rw [bytesOf_length] at this
 exact this
end Go.Proofs.Ytoefjhdcipgacaa.PA
end
section
namespace Go.Proofs.Ytoefjhdcipgacaa.PA
open Go.RowKit Go.Proofs.YtoefjhdcipgacaaW.PrintWords Go.Proofs.YtoefjhdcipgacaaW.PrintLast Go.Proofs.YtoefjhdcipgacaaW.PrintMore
attribute [local go_sem] max2_int min2_int max_two min_two max_three min_three max_four min_four   -- for this text's walks alone
set_option linter.unusedVariables false
set_option linter.unusedSimpArgs false
mutual
def stanzaref07_Parse.l0 : Nat → List (S66) → Int → List (S39) → List (S39) → Option ((List (S39)) × (List (S39)) × Int × Int)
 | 0, _, _, _, _ => none
 | k + 1, x5, x7, d3, b8 => if x7 < (x5.length : Int) then (if 0 ≤ x7 then ((stanzaref07_blank.f ((rd_T66 x5 x7).f0)).bind fun u9 => (if u9 = true then (stanzaref07_Parse.l0 k x5 (wrap64 (x7 + 1)) d3 b8) else (stanzaref07_Parse.l1 k x5 x7 ([] : List Int) ((rd_T66 x5 x7).f1) d3 b8))) else (none)) else (some (d3, b8, 0, 0))
def stanzaref07_Parse.j2 : Nat → List (S66) → Int → List Int → Int → List (S39) → List (S39) → Option ((List (S39)) × (List (S39)) × Int × Int)
 | 0, _, _, _, _, _, _ => none
 | k + 1, x5, x7, x8, x9, d3, b8 => if (wrap64 ((d3.length : Int) + (b8.length : Int))) ≥ 256 then (some (([] : List (S39)), ([] : List (S39)), 24, x9)) else (stanzaref07_Parse.l2 k x5 x7 x8 x9 0 0 d3 b8)
def stanzaref07_Parse.l2 : Nat → List (S66) → Int → List Int → Int → Int → Int → List (S39) → List (S39) → Option ((List (S39)) × (List (S39)) × Int × Int)
 | 0, _, _, _, _, _, _, _, _ => none
 | k + 1, x5, x7, x8, x9, z1, x0, d3, b8 => if x0 < (x8.length : Int) then (if 0 ≤ x0 then (if (rd x8 x0) = 45 then (stanzaref07_Parse.l2 k x5 x7 x8 x9 (wrap64 (z1 + 1)) (wrap64 (x0 + 1)) d3 b8) else (stanzaref07_Parse.l2 k x5 x7 x8 x9 z1 (wrap64 (x0 + 1)) d3 b8)) else (none)) else ((stanzaref07_pattern.f k x8 (decide (z1 > 0))).bind fun o3 => (if o3.2.2 = true then (if z1 = 0 then (if d3.length < 2932031007402 then (stanzaref07_Parse.l0 k x5 x7 (d3 ++ [(⟨o3.1, o3.2.1⟩ : S39)]) b8) else (none)) else (stanzaref07_Parse.l3 k x5 x7 x9 0 d3 b8 o3.1 o3.2.1)) else (some (([] : List (S39)), ([] : List (S39)), 30, x9))))
def stanzaref07_Parse.l3 : Nat → List (S66) → Int → Int → Int → List (S39) → List (S39) → List Int → List Int → Option ((List (S39)) × (List (S39)) × Int × Int)
 | 0, _, _, _, _, _, _, _, _ => none
 | k + 1, x5, x7, x9, z2, d3, b8, p0, s6 => if z2 < (b8.length : Int) then (if 0 ≤ z2 then ((stanzaref07_Same.f k ((rd_T39 b8 z2).f0) p0).bind fun v0 => (if v0 = true then (some (([] : List (S39)), ([] : List (S39)), 23, x9)) else (stanzaref07_Parse.l3 k x5 x7 x9 (wrap64 (z2 + 1)) d3 b8 p0 s6))) else (none)) else (if b8.length < 2932031007402 then (stanzaref07_Parse.l0 k x5 x7 d3 (b8 ++ [(⟨p0, s6⟩ : S39)])) else (none))
def stanzaref07_Parse.l1 : Nat → List (S66) → Int → List Int → Int → List (S39) → List (S39) → Option ((List (S39)) × (List (S39)) × Int × Int)
 | 0, _, _, _, _, _, _ => none
 | k + 1, x5, x7, x8, x9, d3, b8 => if x7 < (x5.length : Int) then (if 0 ≤ x7 then ((stanzaref07_blank.f ((rd_T66 x5 x7).f0)).bind fun v1 => (if v1 = true then (stanzaref07_Parse.j2 k x5 x7 x8 x9 d3 b8) else (if x8.length < 35184372088832 then (stanzaref07_Parse.l1 k x5 (wrap64 (x7 + 1)) (x8 ++ [(rd_T66 x5 x7).f0]) x9 d3 b8) else (none)))) else (none)) else (stanzaref07_Parse.j2 k x5 x7 x8 x9 d3 b8)
end
def stanzaref07_Parse.f (k : Nat) (a0 : ByteArray) : Option ((List (S39)) × (List (S39)) × Int × Int) := if (a0.size : Int) > 4096 then (some (([] : List (S39)), ([] : List (S39)), 24, 4096)) else ((stanzaref01_All.f k (bytesOf a0)).bind fun a8 => (stanzaref07_Parse.l0 k a8 0 ([] : List (S39)) ([] : List (S39))))
set_option maxHeartbeats 8000000 in
set_option maxRecDepth 100000 in
theorem stanzaref07_Parse.calls (k : Nat) (a0 : ByteArray) (r1 : List (S39)) (r2 : List (S39)) (r3 : Int) (r4 : Int) (w : World) (h : stanzaref07_Parse.f k a0 = some (r1, r2, r3, r4)) :
  Calls Try.prog 43 #[.string a0] w fun e w' => ∃ D3 D4 : Value, e = .returned (.tuple #[.agg #[D3, D4], .int .i64 r3, .int .i64 r4]) ∧ Kd.S k39 39 w' w.heap.size (fun k_ => some k_ ≠ (D4 : Value).ownBlock) D3 r1 ∧ Kd.S k39 39 w' w.heap.size (fun k_ => some k_ ≠ (D3 : Value).ownBlock) D4 r2 ∧ Below w.heap.size w w' := by
 have hu50 := Try.underlying50
 have hu39 := Try.underlying39
 have HB := Aside0.mk (Below.refl w.heap.size w)
 have H : (if (a0.size : Int) > 4096 then (some (([] : List (S39)), ([] : List (S39)), 24, 4096)) else ((stanzaref01_All.f k (bytesOf a0)).bind fun a8 => (stanzaref07_Parse.l0 k a8 0 ([] : List (S39)) ([] : List (S39))))) = some (r1, r2, r3, r4) := h
 clear h
 by_cases c2 : (a0.size : Int) > 4096
 ·rw [if_pos c2] at H
  have p1 : decide (4096 < (a0.size : Int)) = true := decide_eq_true c2
  have o2 : decide (4096 < a0.size) = true := decide_eq_true (by omega)
  clear c2
  simp only [Option.some.injEq, Prod.mk.injEq] at H
  obtain ⟨rfl, rfl, rfl, rfl⟩ := H
  go_enter Try.func43, Try.ntmps43
  go_wp2_with (first | ((with_reducible refine gate_dst (N := 2) rfl ?_); refine box_event ?hg (N := 2) ?hd (cs := #[.slice none 0 0, .slice none 0 0]) (t := 50) ?hr ?_; (case hd => rfl); (case hg => rfl); (case hr => first | (go_simp; done) | (go_simp; rfl)); intro a9 hg w3 hbox hb; have b9 := Aside0.mk (below_step (HB.out) hb); have c0 := Aside0.mk (hbox); have c7 := Aside0.mk ((by rw [hg]; exact (below_size (HB.out)) : w.heap.size ≤ a9)); have d2 := Aside0.mk ((by rw [hg]; exact (below_size (HB.out)) : w.heap.size ≤ a9)); clear HB; have HB := b9; have a5 := c0; have v2 := c7; have b7 := d2; clear b9 c0 c7 d2; clear hb hbox hg; have i4 : w3.cell? ⟨a9, 0, none⟩ = some (.slice none 0 0) := (blk_cell a5.out 0).trans rfl; have i5 : w3.cell? ⟨a9, 1, none⟩ = some (.slice none 0 0) := (blk_cell a5.out 1).trans rfl; have i6 := blk_frozen a5.out 0; have i7 := blk_frozen a5.out 1))
  repeat (go_quiet (first | ((with_reducible refine gate_dst (N := 2) rfl ?_); refine box_event ?hg (N := 2) ?hd (cs := #[.slice none 0 0, .slice none 0 0]) (t := 50) ?hr ?_; (case hd => rfl); (case hg => rfl); (case hr => first | (go_simp; done) | (go_simp; rfl)); intro a9 hg w3 hbox hb; have b9 := Aside0.mk (below_step (HB.out) hb); have c0 := Aside0.mk (hbox); have c7 := Aside0.mk ((by rw [hg]; exact (below_size (HB.out)) : w.heap.size ≤ a9)); have d2 := Aside0.mk ((by rw [hg]; exact (below_size (HB.out)) : w.heap.size ≤ a9)); clear HB; have HB := b9; have a5 := c0; have v2 := c7; have b7 := d2; clear b9 c0 c7 d2; clear hb hbox hg; have i4 : w3.cell? ⟨a9, 0, none⟩ = some (.slice none 0 0) := (blk_cell a5.out 0).trans rfl; have i5 : w3.cell? ⟨a9, 1, none⟩ = some (.slice none 0 0) := (blk_cell a5.out 1).trans rfl; have i6 := blk_frozen a5.out 0; have i7 := blk_frozen a5.out 1)); try go_wp2_with (first | ((with_reducible refine gate_dst (N := 2) rfl ?_); refine box_event ?hg (N := 2) ?hd (cs := #[.slice none 0 0, .slice none 0 0]) (t := 50) ?hr ?_; (case hd => rfl); (case hg => rfl); (case hr => first | (go_simp; done) | (go_simp; rfl)); intro a9 hg w3 hbox hb; have b9 := Aside0.mk (below_step (HB.out) hb); have c0 := Aside0.mk (hbox); have c7 := Aside0.mk ((by rw [hg]; exact (below_size (HB.out)) : w.heap.size ≤ a9)); have d2 := Aside0.mk ((by rw [hg]; exact (below_size (HB.out)) : w.heap.size ≤ a9)); clear HB; have HB := b9; have a5 := c0; have v2 := c7; have b7 := d2; clear b9 c0 c7 d2; clear hb hbox hg; have i4 : w3.cell? ⟨a9, 0, none⟩ = some (.slice none 0 0) := (blk_cell a5.out 0).trans rfl; have i5 : w3.cell? ⟨a9, 1, none⟩ = some (.slice none 0 0) := (blk_cell a5.out 1).trans rfl; have i6 := blk_frozen a5.out 0; have i7 := blk_frozen a5.out 1)))
  refine bodyPost_ret (results_ctt rfl _ _ a9 50 #[.slice none 0 0, .slice none 0 0] (0, 0) _ rfl (by refine blk_put (cs := #[.slice none 0 0, .slice none 0 0]) ?_ 1 _ rfl; refine blk_put (cs := #[.slice none 0 0, .slice none 0 0]) ?_ 0 _ rfl; exact a5.out) Try.underlying50 rfl (by kernel_rfl)) rfl ?_
  exact ⟨_, _, rfl, by first | exact Kd.S_nil _ _ _ _ _ | exact Kd.N_nil _ _ _ _ _ | exact Kd.V_nil _ _ _ _ _ | exact Kd.Q_nil _ _ _ _ _ | exact Kd.R_nil _ _ _ _ _, by first | exact Kd.S_nil _ _ _ _ _ | exact Kd.N_nil _ _ _ _ _ | exact Kd.V_nil _ _ _ _ _ | exact Kd.Q_nil _ _ _ _ _ | exact Kd.R_nil _ _ _ _ _, by repeat (first | (with_reducible first | exact HB.out | apply below_alloc | apply pw_below_drewN | apply below_drew1 | refine below_set ?_ b7.out) | exact HB.out)⟩
 ·rw [if_neg c2] at H
  have p1 : decide (4096 < (a0.size : Int)) = false := decide_eq_false c2
  have o2 : decide (4096 < a0.size) = false := decide_eq_false (by omega)
  clear c2
  replace H := Option.bind_eq_some_iff.mp H
  obtain ⟨a8, G7, H⟩ := H
  replace H : (stanzaref07_Parse.l0 k a8 0 ([] : List (S39)) ([] : List (S39))) = some (r1, r2, r3, r4) := H
  have HSZ : Aside0 (a0.size ≤ 9223372036854775807) := ⟨by have := of_decide_eq_false o2; omega⟩
  have HCAP := Aside0.mk (fun w : World => grownCap_ge w a0.size 0 5)
  have hconv := fun w => run_bytes_of_string (P := Try.prog) w 9 27 5 a0 Try.underlying9 Try.underlying27 Try.underlying5
  have A5 := Aside0.mk G7
  clear G7
  have H' := Aside0.mk H
  clear H
  go_enter Try.func43, Try.ntmps43
  go_wp2_with (first | ((with_reducible refine gate_dst (N := 2) rfl ?_); refine box_event ?hg (N := 2) ?hd (cs := #[.slice none 0 0, .slice none 0 0]) (t := 50) ?hr ?_; (case hd => rfl); (case hg => rfl); (case hr => first | (go_simp; done) | (go_simp; rfl)); intro a9 hg w6 hbox hb; have b9 := Aside0.mk (below_step (by repeat (first | (with_reducible first | exact HB.out | apply below_alloc | apply pw_below_drewN | apply below_drew1) | exact HB.out)) hb); have c0 := Aside0.mk (hbox); have c7 := Aside0.mk ((by rw [hg]; exact (below_size (by repeat (first | (with_reducible first | exact HB.out | apply below_alloc | apply pw_below_drewN | apply below_drew1) | exact HB.out))) : w.heap.size ≤ a9)); have d2 := Aside0.mk ((by rw [hg]; exact (below_size (by repeat (first | (with_reducible first | exact HB.out | apply below_alloc | apply pw_below_drewN | apply below_drew1) | exact HB.out))) : w.heap.size ≤ a9)); clear HB; have HB := b9; have a5 := c0; have v2 := c7; have b7 := d2; clear b9 c0 c7 d2; clear hb hbox hg) | (go_at_call 28; refine (allStr_calls k a0 a8 _ HSZ.out (HCAP.out _) A5.out).mono ?_; rintro e w7 ⟨H2, rfl, h4, hb⟩; have b9 := Aside0.mk (Kd.R_lower h4 (below_size (by repeat (first | (with_reducible first | exact HB.out | apply below_alloc | apply pw_below_drewN | apply below_drew1 | refine below_set ?_ b7.out) | exact HB.out)))); have c0 := Aside0.mk (blk_below (g := a9) (o := .cells #[.slice none 0 0, .slice none 0 0] 50 (0, 0)) (by (with_reducible repeat (first | refine blk_drewN ?_ _ | refine blk_drew ?_ | refine blk_alloc ?_ _)); exact a5.out) hb); have c7 := Aside0.mk (below_step (by repeat (first | (with_reducible first | exact HB.out | apply below_alloc | apply pw_below_drewN | apply below_drew1 | refine below_set ?_ b7.out) | exact HB.out)) hb); clear a5; clear HB; have r0 := b9; have a5 := c0; have HB := c7; clear b9 c0 c7; (try clear hb); (try clear D5); (try clear hk); (try clear hi); (try clear h4)) | ((with_reducible refine gate_dst (N := 6) rfl ?_); refine box_event ?hg (N := 6) ?hd (cs := #[.slice none 0 0, .slice none 0 0]) (t := 50) ?hr ?_; (case hd => rfl); (case hg => rfl); (case hr => first | (go_simp; done) | (go_simp; rfl)); intro b1 hg w8 hbox hb; have b9 := Aside0.mk (Kd.R_below (by (with_reducible repeat (first | apply Kd.R_alloc | apply Kd.R_drewN | apply Kd.R_drew)); exact r0.out) hb); have c0 := Aside0.mk (blk_below (g := a9) (o := .cells #[.slice none 0 0, .slice none 0 0] 50 (0, 0)) (by (with_reducible repeat (first | refine blk_drewN ?_ _ | refine blk_drew ?_ | refine blk_alloc ?_ _)); exact a5.out) hb); have c7 := Aside0.mk (below_step (by repeat (first | (with_reducible first | exact HB.out | apply below_alloc | apply pw_below_drewN | apply below_drew1 | refine below_set ?_ b7.out) | exact HB.out)) hb); have d2 := Aside0.mk (hbox); have e8 := Aside0.mk ((by rw [hg]; exact (below_size (by repeat (first | (with_reducible first | exact HB.out | apply below_alloc | apply pw_below_drewN | apply below_drew1 | refine below_set ?_ b7.out) | exact HB.out))) : w.heap.size ≤ b1)); have e9 := Aside0.mk ((by rw [hg]; exact (below_size (by repeat (first | (with_reducible first | exact HB.out | apply below_alloc | apply pw_below_drewN | apply below_drew1 | refine below_set ?_ b7.out) | exact HB.out))) : w.heap.size ≤ b1)); have f2 := Aside0.mk ((by rw [hg]; exact Nat.ne_of_lt (blk_lt (g := a9) (o := .cells #[.slice none 0 0, .slice none 0 0] 50 (0, 0)) (by (with_reducible repeat (first | refine blk_drewN ?_ _ | refine blk_drew ?_ | refine blk_alloc ?_ _)); exact a5.out)) : a9 ≠ b1)); have f4 := Aside0.mk ((by rw [hg]; exact Nat.ne_of_gt (blk_lt (g := a9) (o := .cells #[.slice none 0 0, .slice none 0 0] 50 (0, 0)) (by (with_reducible repeat (first | refine blk_drewN ?_ _ | refine blk_drew ?_ | refine blk_alloc ?_ _)); exact a5.out)) : b1 ≠ a9)); clear r0; clear a5; clear HB; have r0 := b9; have a5 := c0; have HB := c7; have a6 := d2; have O4 := e8; have e3 := e9; have e0 := f2; have f5 := f4; clear b9 c0 c7 d2 e8 e9 f2 f4; clear hb hbox hg; have S6 := f5.out; have S7 := e0.out; have l5 : w8.cell? ⟨b1, 0, none⟩ = some (.slice none 0 0) := (blk_cell a6.out 0).trans rfl; have l6 : w8.cell? ⟨b1, 1, none⟩ = some (.slice none 0 0) := (blk_cell a6.out 1).trans rfl; have l7 := blk_frozen a6.out 0; have l8 := blk_frozen a6.out 1))
  go_loopg [7] k (fun kq v7 w' => ∃ (b5 : Int) (a2 : List (S39)) (a1 : List (S39)) (e4 : Value) (e5 : Value), v7 = .int .i64 b5 ∧ Aside0 (stanzaref07_Parse.l0 kq a8 b5 a2 a1 = some (r1, r2, r3, r4)) ∧ Aside0 (kq ≤ k) ∧ Aside0 (Kd.R k66 66 w' w.heap.size (fun _ => True) H2 a8) ∧ Aside0 (Kd.S k39 39 w' w.heap.size (fun k_ => some k_ ≠ (e5 : Value).ownBlock) e4 a2) ∧ Aside0 (Kd.S k39 39 w' w.heap.size (fun k_ => some k_ ≠ (e4 : Value).ownBlock) e5 a1) ∧ Aside0 (w'.heap[a9]? = some (.cells #[(.slice none 0 0), (.slice none 0 0)] 50 (0, 0))) ∧ Aside0 (w'.heap[b1]? = some (.cells #[e4, e5] 50 (0, 0))) ∧ Aside0 (Below w.heap.size w w'))
  case atStart => exact ⟨(0), (([] : List (S39))), (([] : List (S39))), (.slice none 0 0), (.slice none 0 0), (rfl), H', ⟨Nat.le_refl _⟩, ⟨by exact Kd.R_mono (Kd.R_far (p := ⟨b1, 1, none⟩) (Kd.R_far (p := ⟨b1, 0, none⟩) (Kd.R_types r0.out a6.out (by decide)) (fun _ hk => hk.2) (.slice none 0 0)) (fun _ hk => hk.2) (.slice none 0 0)) (fun _ hk => trivial)⟩, ⟨by first | exact Kd.S_nil _ _ _ _ _ | exact Kd.N_nil _ _ _ _ _ | exact Kd.V_nil _ _ _ _ _ | exact Kd.Q_nil _ _ _ _ _ | exact Kd.R_nil _ _ _ _ _⟩, ⟨by first | exact Kd.S_nil _ _ _ _ _ | exact Kd.N_nil _ _ _ _ _ | exact Kd.V_nil _ _ _ _ _ | exact Kd.Q_nil _ _ _ _ _ | exact Kd.R_nil _ _ _ _ _⟩, ⟨by refine blk_far ?_ e0.out _; refine blk_far ?_ e0.out _; exact a5.out⟩, ⟨by refine blk_put (cs := #[.slice none 0 0, .slice none 0 0]) ?_ 1 _ rfl; refine blk_put (cs := #[.slice none 0 0, .slice none 0 0]) ?_ 0 _ rfl; exact a6.out⟩, ⟨by repeat (first | (with_reducible first | exact HB.out | apply below_alloc | apply pw_below_drewN | apply below_drew1 | refine below_set ?_ b7.out | refine below_set ?_ e3.out) | exact HB.out)⟩⟩
  case round =>
   clear H'
   try clear c2
   try clear p1
   try clear o2
   try clear p2
   try clear c4
   try clear c9
   try clear l5
   try clear l6
   try clear i4
   try clear i5
   try clear l7
   try clear l8
   try clear i6
   try clear i7
   obtain ⟨b5, a2, a1, e4, e5, rfl, HA, i0, b2, a4, a3, a5, a6, HB⟩ := hrel
   cases gk with
   | zero => exact absurd HA.out (by simp [stanzaref07_Parse.l0])
   | succ k1 =>
    have H := HA.out
    clear HA
    simp only [stanzaref07_Parse.l0] at H
    by_cases o0 : b5 < (a8.length : Int)
    ·rw [if_pos o0] at H
     have o4 : decide (b5 < (a8.length : Int)) = true := decide_eq_true o0
     clear o0
     by_cases q5 : 0 ≤ b5
     ·rw [if_pos q5] at H
      have r5 : decide (0 ≤ b5) = true := decide_eq_true q5
      clear q5
      replace H := Option.bind_eq_some_iff.mp H
      obtain ⟨u9, D6, H⟩ := H
      replace H : (if u9 = true then (stanzaref07_Parse.l0 k1 a8 (wrap64 (b5 + 1)) a2 a1) else (stanzaref07_Parse.l1 k1 a8 b5 ([] : List Int) ((rd_T66 a8 b5).f1) a2 a1)) = some (r1, r2, r3, r4) := H
      have s7 := Aside0.mk D6
      clear D6
      by_cases q6 : u9 = true
      ·subst q6
       have H1 : (stanzaref07_Parse.l0 k1 a8 (wrap64 (b5 + 1)) a2 a1) = some (r1, r2, r3, r4) := by rw [if_pos rfl] at H; exact H
       clear H
       have H := H1
       clear H1
       have H' := Aside0.mk H
       clear H
       obtain ⟨S8, S9, H3⟩ := Kd.R_slice b2.out
       subst H3
       have i8 : 0 ≤ (b5 : Int) := of_decide_eq_true (by assumption)
       have i9 : b5 < (a8.length : Int) := of_decide_eq_true (by assumption)
       obtain ⟨h1, x4, l9, m0, m1⟩ := at_T66 (Kd.R_reads' b2.out).2.2 b5 i8 i9
       cases x4
       replace i8 := eq_true i8
       replace i9 := eq_true i9
       go_wp2_with (first | (go_at_call 56; (with_reducible refine (stanzaref07_blank.calls ((rd_T66 a8 b5).f0) true _ s7.out).mono ?_); rintro e w' ⟨rfl, ⟨nd, rfl⟩⟩; (try first | exact ⟨rfl, _, World.drewN_drewN _ _ _⟩ | exact ⟨rfl, _, Eq.trans (World.drewN_drewN _ _ _) (congrArg (World.drewN _) (Nat.add_assoc _ _ _))⟩)))
       repeat (go_quiet (first | (go_at_call 56; (with_reducible refine (stanzaref07_blank.calls ((rd_T66 a8 b5).f0) true _ s7.out).mono ?_); rintro e w' ⟨rfl, ⟨nd, rfl⟩⟩; (try first | exact ⟨rfl, _, World.drewN_drewN _ _ _⟩ | exact ⟨rfl, _, Eq.trans (World.drewN_drewN _ _ _) (congrArg (World.drewN _) (Nat.add_assoc _ _ _))⟩))); try go_wp2_with (first | (go_at_call 56; (with_reducible refine (stanzaref07_blank.calls ((rd_T66 a8 b5).f0) true _ s7.out).mono ?_); rintro e w' ⟨rfl, ⟨nd, rfl⟩⟩; (try first | exact ⟨rfl, _, World.drewN_drewN _ _ _⟩ | exact ⟨rfl, _, Eq.trans (World.drewN_drewN _ _ _) (congrArg (World.drewN _) (Nat.add_assoc _ _ _))⟩))))
       go_roundg k1
       case measure => have := i0.out; omega
       case rel => exact ⟨(wrap64 (b5 + 1)), (a2), (a1), (e4), (e5), (rfl), H', ⟨by have := i0.out; omega⟩, ⟨by exact b2.out⟩, ⟨by exact a4.out⟩, ⟨by exact a3.out⟩, ⟨by exact a5.out⟩, ⟨by exact a6.out⟩, ⟨by repeat (first | (with_reducible first | exact HB.out | apply below_alloc | apply pw_below_drewN | apply below_drew1 | refine below_set ?_ b7.out | refine below_set ?_ e3.out) | exact HB.out)⟩⟩
      ·replace q6 := Bool.eq_false_iff.mpr q6
       subst q6
       have H1 : (stanzaref07_Parse.l1 k1 a8 b5 ([] : List Int) ((rd_T66 a8 b5).f1) a2 a1) = some (r1, r2, r3, r4) := by rw [if_neg (show ¬ (false = true) by decide)] at H; exact H
       clear H
       have H := H1
       clear H1
       have x6 := Aside0.mk H
       clear H
       obtain ⟨T0, r8, H4⟩ := Kd.R_slice b2.out
       subst H4
       have i8 : 0 ≤ (b5 : Int) := of_decide_eq_true (by assumption)
       have i9 : b5 < (a8.length : Int) := of_decide_eq_true (by assumption)
       obtain ⟨h1, x4, l9, m0, m1⟩ := at_T66 (Kd.R_reads' b2.out).2.2 b5 i8 i9
       cases x4
       replace i8 := eq_true i8
       replace i9 := eq_true i9
       go_upto_block 2 with (first | (go_at_call 56; (with_reducible refine (stanzaref07_blank.calls ((rd_T66 a8 b5).f0) false _ s7.out).mono ?_); rintro e w' ⟨rfl, ⟨nd, rfl⟩⟩; (try first | exact ⟨rfl, _, World.drewN_drewN _ _ _⟩ | exact ⟨rfl, _, Eq.trans (World.drewN_drewN _ _ _) (congrArg (World.drewN _) (Nat.add_assoc _ _ _))⟩); have h2 : 0 ≤ (b5 : Int) := of_decide_eq_true (by assumption); have h3 : b5 < (a8.length : Int) := of_decide_eq_true (by assumption); obtain ⟨o5, r9, i1, i2, i3⟩ := at_T66 (Kd.R_reads' b2.out).2.2 b5 h2 h3; obtain rfl : h1 = o5 := (by injection r9); replace h2 := eq_true h2; replace h3 := eq_true h3))
       repeat (go_quiet (first | (go_at_call 56; (with_reducible refine (stanzaref07_blank.calls ((rd_T66 a8 b5).f0) false _ s7.out).mono ?_); rintro e w' ⟨rfl, ⟨nd, rfl⟩⟩; (try first | exact ⟨rfl, _, World.drewN_drewN _ _ _⟩ | exact ⟨rfl, _, Eq.trans (World.drewN_drewN _ _ _) (congrArg (World.drewN _) (Nat.add_assoc _ _ _))⟩); have h2 : 0 ≤ (b5 : Int) := of_decide_eq_true (by assumption); have h3 : b5 < (a8.length : Int) := of_decide_eq_true (by assumption); obtain ⟨o5, r9, i1, i2, i3⟩ := at_T66 (Kd.R_reads' b2.out).2.2 b5 h2 h3; obtain rfl : h1 = o5 := (by injection r9); replace h2 := eq_true h2; replace h3 := eq_true h3)); go_upto_block 2 with (first | (go_at_call 56; (with_reducible refine (stanzaref07_blank.calls ((rd_T66 a8 b5).f0) false _ s7.out).mono ?_); rintro e w' ⟨rfl, ⟨nd, rfl⟩⟩; (try first | exact ⟨rfl, _, World.drewN_drewN _ _ _⟩ | exact ⟨rfl, _, Eq.trans (World.drewN_drewN _ _ _) (congrArg (World.drewN _) (Nat.add_assoc _ _ _))⟩); have h2 : 0 ≤ (b5 : Int) := of_decide_eq_true (by assumption); have h3 : b5 < (a8.length : Int) := of_decide_eq_true (by assumption); obtain ⟨o5, r9, i1, i2, i3⟩ := at_T66 (Kd.R_reads' b2.out).2.2 b5 h2 h3; obtain rfl : h1 = o5 := (by injection r9); replace h2 := eq_true h2; replace h3 := eq_true h3)))
       go_cut [7, 8] (fun v7 v8 wc => ∃ (kq : Nat) (g0 : Int) (d0 : List Int), v7 = .int .i64 g0 ∧ Aside0 (stanzaref07_Parse.j2 kq a8 g0 d0 ((rd_T66 a8 b5).f1) a2 a1 = some (r1, r2, r3, r4)) ∧ Aside0 (kq ≤ k1) ∧ Aside0 (Kd.R k66 66 wc w.heap.size (fun _ => True) (.slice (some h1) a8.length r8) a8) ∧ Aside0 (Kd.R (Kd.int .i32) 21 wc w.heap.size (fun _ => True) v8 d0) ∧ Aside0 (Kd.S k39 39 wc w.heap.size (fun k_ => some k_ ≠ (v8 : Value).ownBlock ∧ some k_ ≠ (e5 : Value).ownBlock) e4 a2) ∧ Aside0 (Kd.S k39 39 wc w.heap.size (fun k_ => some k_ ≠ (v8 : Value).ownBlock ∧ some k_ ≠ (e4 : Value).ownBlock) e5 a1) ∧ Aside0 (wc.heap[a9]? = some (.cells #[(.slice none 0 0), (.slice none 0 0)] 50 (0, 0))) ∧ Aside0 (wc.heap[b1]? = some (.cells #[e4, e5] 50 (0, 0))) ∧ Aside0 (Below w.heap.size w wc))
       case first =>
        have H := x6.out
        clear x6
        have H' := Aside0.mk H
        clear H
        go_wp2
        repeat (go_quiet (fail); try go_wp2)
        go_loopg [7, 8] k1 (fun kq v7 v8 w' => ∃ (d4 : Int) (h5 : List Int), v7 = .int .i64 d4 ∧ Aside0 (stanzaref07_Parse.l1 kq a8 d4 h5 ((rd_T66 a8 b5).f1) a2 a1 = some (r1, r2, r3, r4)) ∧ Aside0 (kq ≤ k1) ∧ Aside0 (Kd.R k66 66 w' w.heap.size (fun _ => True) (.slice (some h1) a8.length r8) a8) ∧ Aside0 (Kd.R (Kd.int .i32) 21 w' w.heap.size (fun _ => True) v8 h5) ∧ Aside0 (Kd.S k39 39 w' w.heap.size (fun k_ => some k_ ≠ (v8 : Value).ownBlock ∧ some k_ ≠ (e5 : Value).ownBlock) e4 a2) ∧ Aside0 (Kd.S k39 39 w' w.heap.size (fun k_ => some k_ ≠ (v8 : Value).ownBlock ∧ some k_ ≠ (e4 : Value).ownBlock) e5 a1) ∧ Aside0 (w'.heap[a9]? = some (.cells #[(.slice none 0 0), (.slice none 0 0)] 50 (0, 0))) ∧ Aside0 (w'.heap[b1]? = some (.cells #[e4, e5] 50 (0, 0))) ∧ Aside0 (Below w.heap.size w w'))
        case atStart => exact ⟨(b5), (([] : List Int)), (rfl), H', ⟨Nat.le_refl _⟩, ⟨by exact b2.out⟩, ⟨by first | exact Kd.R_nil _ _ _ _ _ | exact Kd.N_nil _ _ _ _ _ | exact Kd.V_nil _ _ _ _ _ | exact Kd.Q_nil _ _ _ _ _ | exact Kd.S_nil _ _ _ _ _⟩, ⟨by exact Kd.S_mono a4.out (fun _ hk => ⟨(by simp [Value.ownBlock]), hk⟩)⟩, ⟨by exact Kd.S_mono a3.out (fun _ hk => ⟨(by simp [Value.ownBlock]), hk⟩)⟩, ⟨by exact a5.out⟩, ⟨by exact a6.out⟩, ⟨by repeat (first | (with_reducible first | exact HB.out | apply below_alloc | apply pw_below_drewN | apply below_drew1 | refine below_set ?_ b7.out | refine below_set ?_ e3.out) | exact HB.out)⟩⟩
        case round =>
         clear H'
         try clear c1
         try clear c2
         try clear p1
         try clear o2
         try clear p2
         try clear p3
         try clear q3
         try clear D7
         try clear c4
         try clear p6
         try clear c9
         try clear o0
         try clear o4
         try clear q5
         try clear r5
         try clear q6
         try clear l5
         try clear l6
         try clear i4
         try clear i5
         try clear l7
         try clear l8
         try clear i6
         try clear i7
         try clear l9
         try clear m0
         try clear m1
         try clear i1
         try clear i2
         try clear i3
         try clear p2
         try clear i8
         try clear h2
         try clear i9
         try clear h3
         obtain ⟨d4, h5, rfl, HA, z3, b2, b4, a4, a3, a5, a6, HB⟩ := hrel
         cases gk with
         | zero => exact absurd HA.out (by simp [stanzaref07_Parse.l1])
         | succ k2 =>
          have H := HA.out
          clear HA
          simp only [stanzaref07_Parse.l1] at H
          by_cases o6 : d4 < (a8.length : Int)
          ·rw [if_pos o6] at H
           have j1 : decide (d4 < (a8.length : Int)) = true := decide_eq_true o6
           clear o6
           (first | rw [j1] | (simp only [i64_w, i32_w]; rw [j1]) | skip)
           by_cases s0 : 0 ≤ d4
           ·rw [if_pos s0] at H
            have v3 : decide (0 ≤ d4) = true := decide_eq_true s0
            clear s0
            replace H := Option.bind_eq_some_iff.mp H
            obtain ⟨v1, D8, H⟩ := H
            replace H : (if v1 = true then (stanzaref07_Parse.j2 k2 a8 d4 h5 ((rd_T66 a8 b5).f1) a2 a1) else (if h5.length < 35184372088832 then (stanzaref07_Parse.l1 k2 a8 (wrap64 (d4 + 1)) (h5 ++ [(rd_T66 a8 d4).f0]) ((rd_T66 a8 b5).f1) a2 a1) else (none))) = some (r1, r2, r3, r4) := H
            have z4 := Aside0.mk D8
            clear D8
            by_cases s1 : v1 = true
            ·subst s1
             have H1 : (stanzaref07_Parse.j2 k2 a8 d4 h5 ((rd_T66 a8 b5).f1) a2 a1) = some (r1, r2, r3, r4) := by rw [if_pos rfl] at H; exact H
             clear H
             have H := H1
             clear H1
             have H' := Aside0.mk H
             clear H
             have j7 : 0 ≤ (d4 : Int) := of_decide_eq_true (by assumption)
             have j8 : d4 < (a8.length : Int) := of_decide_eq_true (by assumption)
             obtain ⟨v4, y8, n7, n8, n9⟩ := at_T66 (Kd.R_reads' b2.out).2.2 d4 j7 j8
             obtain rfl : h1 = v4 := (by injection y8)
             replace j7 := eq_true j7
             replace j8 := eq_true j8
             go_wp2_with (first | (go_at_call 56; (with_reducible refine (stanzaref07_blank.calls ((rd_T66 a8 d4).f0) true _ z4.out).mono ?_); rintro e w' ⟨rfl, ⟨nd, rfl⟩⟩; (try first | exact ⟨rfl, _, World.drewN_drewN _ _ _⟩ | exact ⟨rfl, _, Eq.trans (World.drewN_drewN _ _ _) (congrArg (World.drewN _) (Nat.add_assoc _ _ _))⟩)))
             repeat (go_quiet (first | (go_at_call 56; (with_reducible refine (stanzaref07_blank.calls ((rd_T66 a8 d4).f0) true _ z4.out).mono ?_); rintro e w' ⟨rfl, ⟨nd, rfl⟩⟩; (try first | exact ⟨rfl, _, World.drewN_drewN _ _ _⟩ | exact ⟨rfl, _, Eq.trans (World.drewN_drewN _ _ _) (congrArg (World.drewN _) (Nat.add_assoc _ _ _))⟩))); try go_wp2_with (first | (go_at_call 56; (with_reducible refine (stanzaref07_blank.calls ((rd_T66 a8 d4).f0) true _ z4.out).mono ?_); rintro e w' ⟨rfl, ⟨nd, rfl⟩⟩; (try first | exact ⟨rfl, _, World.drewN_drewN _ _ _⟩ | exact ⟨rfl, _, Eq.trans (World.drewN_drewN _ _ _) (congrArg (World.drewN _) (Nat.add_assoc _ _ _))⟩))))
             go_meet
             case rel => exact ⟨_, (d4), (h5), (rfl), H', ⟨by have := i0.out; have := z3.out; first | omega | exact Nat.le_refl _⟩, ⟨by exact b2.out⟩, ⟨by exact b4.out⟩, ⟨by exact a4.out⟩, ⟨by exact a3.out⟩, ⟨by exact a5.out⟩, ⟨by exact a6.out⟩, ⟨by repeat (first | (with_reducible first | exact HB.out | apply below_alloc | apply pw_below_drewN | apply below_drew1 | refine below_set ?_ b7.out | refine below_set ?_ e3.out) | exact HB.out)⟩⟩
            ·replace s1 := Bool.eq_false_iff.mpr s1
             subst s1
             have H1 : (if h5.length < 35184372088832 then (stanzaref07_Parse.l1 k2 a8 (wrap64 (d4 + 1)) (h5 ++ [(rd_T66 a8 d4).f0]) ((rd_T66 a8 b5).f1) a2 a1) else (none)) = some (r1, r2, r3, r4) := by rw [if_neg (show ¬ (false = true) by decide)] at H; exact H
             clear H
             have H := H1
             clear H1
             by_cases s2 : h5.length < 35184372088832
             ·rw [if_pos s2] at H
              have F1 := Aside0.mk s2
              clear s2
              obtain ⟨D9, o7⟩ : ∃ y_ : List Int, y_ = (h5 ++ [(rd_T66 a8 d4).f0]) := ⟨_, rfl⟩
              replace H : (stanzaref07_Parse.l1 k2 a8 (wrap64 (d4 + 1)) D9 ((rd_T66 a8 b5).f1) a2 a1) = some (r1, r2, r3, r4) := by first | (rw [o7]; with_reducible exact H) | (have m8 := (Option.bind_some _ _).symm.trans H; rw [o7]; with_reducible exact m8) | (have m8 := (Option.bind_some _ _).symm.trans H; with_reducible exact m8) | with_reducible exact H | (rw [o7]; exact H) | exact H
              have F2 := Aside0.mk o7
              clear o7
              have H' := Aside0.mk H
              clear H
              have j7 : 0 ≤ (d4 : Int) := of_decide_eq_true (by assumption)
              have j8 : d4 < (a8.length : Int) := of_decide_eq_true (by assumption)
              obtain ⟨v4, y8, n7, n8, n9⟩ := at_T66 (Kd.R_reads' b2.out).2.2 d4 j7 j8
              obtain rfl : h1 = v4 := (by injection y8)
              replace j7 := eq_true j7
              replace j8 := eq_true j8
              go_wp2_with (first | (go_at_call 56; (with_reducible refine (stanzaref07_blank.calls ((rd_T66 a8 d4).f0) false _ z4.out).mono ?_); rintro e w' ⟨rfl, ⟨nd, rfl⟩⟩; (try first | exact ⟨rfl, _, World.drewN_drewN _ _ _⟩ | exact ⟨rfl, _, Eq.trans (World.drewN_drewN _ _ _) (congrArg (World.drewN _) (Nat.add_assoc _ _ _))⟩); have p4 : 0 ≤ (d4 : Int) := of_decide_eq_true (by first | (with_reducible assumption) | assumption); have p5 : d4 < (a8.length : Int) := of_decide_eq_true (by first | (with_reducible assumption) | assumption); obtain ⟨F3, H5, p7, p8, p9⟩ := at_T66 (Kd.R_reads' b2.out).2.2 d4 p4 p5; obtain rfl : h1 = F3 := (by injection H5); replace p4 := eq_true p4; replace p5 := eq_true p5) | ((with_reducible refine gate_builtin (b := .append) (xs := #[.tmp 53, .tmp 59]) rfl ?_); at_builtin; refine Kd.R_append (Kd.int .i32) (w0 := w) w.heap.size rfl (.tmp 53) (.tmp 59) 23 21 (.int .i32 0) 4 rfl Try.underlying23 info21 rfl (by decide) (by omega) u8 h5 ((rd_T66 a8 d4).f0) [.int .i32 ((rd_T66 a8 d4).f0)] (fun _ => True) (fun _ => False) rfl rfl ?aP (fun _ hk => hk.elim) ?aF ?aO ?aB ?aS ?aL ?_; (case aP => exact rfl); (case aB => exact (by repeat (first | (with_reducible first | exact HB.out | apply below_alloc | apply pw_below_drewN | apply below_drew1 | refine below_set ?_ b7.out | refine below_set ?_ e3.out) | exact HB.out))); (case aF => exact (fun _ _ => trivial)); (case aO => exact (by apply Kd.R_drewN; exact b4.out)); (case aS => exact (below_size (by repeat (first | (with_reducible first | exact HB.out | apply below_alloc | apply pw_below_drewN | apply below_drew1 | refine below_set ?_ b7.out | refine below_set ?_ e3.out) | exact HB.out)))); (case aL => have := F1.out; omega); intro T1 V2 ho hb hg hat; rw [← F2.out] at ho; have b9 := Aside0.mk (Kd.R_over' (by apply Kd.R_drewN; exact b2.out) (Kd.R_typed (by apply Kd.R_drewN; exact b4.out)) (by decide) hg); have c0 := Aside0.mk (Kd.S_after (ok := (fun k_ => some k_ ≠ (e5 : Value).ownBlock)) (by apply Kd.S_drewN; exact Kd.S_mono a4.out (fun _ hk => ⟨hk.2, hk.1⟩)) hg hat); have c7 := Aside0.mk (Kd.S_after (ok := (fun k_ => some k_ ≠ (e4 : Value).ownBlock)) (by apply Kd.S_drewN; exact Kd.S_mono a3.out (fun _ hk => ⟨hk.2, hk.1⟩)) hg hat); have d2 := Aside0.mk (blk_grown (g := a9) (o := .cells #[.slice none 0 0, .slice none 0 0] 50 (0, 0)) (by refine blk_drewN ?_ _; exact a5.out) hg (Kd.R_ne b4.out a5.out (by decide))); have e8 := Aside0.mk (blk_grown (g := b1) (o := .cells #[e4, e5] 50 (0, 0)) (by refine blk_drewN ?_ _; exact a6.out) hg (Kd.R_ne b4.out a6.out (by decide))); have e9 := Aside0.mk (hb); have f2 := Aside0.mk (ho); clear b2; clear a4; clear a3; clear a5; clear a6; clear HB; clear b4; have b2 := b9; have a4 := c0; have a3 := c7; have a5 := d2; have a6 := e8; have HB := e9; have F4 := f2; clear b9 c0 c7 d2 e8 e9 f2; clear ho hb hg hat))
              go_roundg k2
              case measure => have := i0.out; have := z3.out; omega
              case rel => exact ⟨(wrap64 (d4 + 1)), (D9), (rfl), H', ⟨by have := i0.out; have := z3.out; omega⟩, ⟨by exact b2.out⟩, ⟨by exact F4.out⟩, ⟨by exact Kd.S_mono a4.out (fun _ hk => ⟨hk.2, hk.1⟩)⟩, ⟨by exact Kd.S_mono a3.out (fun _ hk => ⟨hk.2, hk.1⟩)⟩, ⟨by exact a5.out⟩, ⟨by exact a6.out⟩, ⟨HB.out⟩⟩
             ·rw [if_neg s2] at H
              exact absurd H (by simp)
           ·rw [if_neg s0] at H
            exact absurd H (by simp)
          ·rw [if_neg o6] at H
           have j1 : decide (d4 < (a8.length : Int)) = false := decide_eq_false o6
           clear o6
           (first | rw [j1] | (simp only [i64_w, i32_w]; rw [j1]) | skip)
           have H' := Aside0.mk H
           clear H
           go_wp2
           repeat (go_quiet (fail); try go_wp2)
           go_meet
           case rel => exact ⟨_, (d4), (h5), (rfl), H', ⟨by have := i0.out; have := z3.out; first | omega | exact Nat.le_refl _⟩, ⟨by exact b2.out⟩, ⟨by exact b4.out⟩, ⟨by exact a4.out⟩, ⟨by exact a3.out⟩, ⟨by exact a5.out⟩, ⟨by exact a6.out⟩, ⟨HB.out⟩⟩
       case rest =>
        clear x6
        try clear c1
        try clear c2
        try clear p1
        try clear o2
        try clear p2
        try clear p3
        try clear q3
        try clear D7
        try clear c4
        try clear p6
        try clear c9
        try clear o0
        try clear o4
        try clear q5
        try clear r5
        try clear q6
        try clear o6
        try clear j1
        try clear s0
        try clear v3
        try clear s1
        try clear s2
        try clear l5
        try clear l6
        try clear i4
        try clear i5
        try clear l7
        try clear l8
        try clear i6
        try clear i7
        try clear l9
        try clear m0
        try clear m1
        try clear i1
        try clear i2
        try clear i3
        try clear n7
        try clear n8
        try clear n9
        try clear p7
        try clear p8
        try clear p9
        try clear p2
        try clear p3
        try clear i8
        try clear h2
        try clear j7
        try clear p4
        try clear p6
        try clear q3
        try clear i9
        try clear h3
        try clear j8
        try clear p5
        obtain ⟨kq, g0, d0, rfl, HA, j9, b2, b4, a4, a3, a5, a6, HB⟩ := hcut
        cases kq with
        | zero => exact absurd HA.out (by simp [stanzaref07_Parse.j2])
        | succ E0 =>
         have H := HA.out
         clear HA
         simp only [stanzaref07_Parse.j2] at H
         by_cases q7 : (wrap64 ((a2.length : Int) + (a1.length : Int))) ≥ 256
         ·rw [if_pos q7] at H
          have v5 : decide (256 ≤ (wrap64 ((a2.length : Int) + (a1.length : Int)))) = true := decide_eq_true q7
          clear q7
          simp only [Option.some.injEq, Prod.mk.injEq] at H
          obtain ⟨rfl, rfl, rfl, rfl⟩ := H
          have O5 := f5.out
          have O6 := e0.out
          have s8 : wc.cell? ⟨b1, 0, none⟩ = some (e4) := (blk_cell a6.out 0).trans rfl
          have s9 : wc.cell? ⟨b1, 1, none⟩ = some (e5) := (blk_cell a6.out 1).trans rfl
          have t0 := blk_frozen a6.out 0
          have t1 := blk_frozen a6.out 1
          obtain ⟨T2, T3, H6⟩ := Kd.S_slice a4.out
          subst H6
          obtain ⟨T4, T5, H7⟩ := Kd.S_slice a3.out
          subst H7
          have t2 : wc.cell? ⟨a9, 0, none⟩ = some (.slice none 0 0) := (blk_cell a5.out 0).trans rfl
          have t3 : wc.cell? ⟨a9, 1, none⟩ = some (.slice none 0 0) := (blk_cell a5.out 1).trans rfl
          have t4 := blk_frozen a5.out 0
          have t5 := blk_frozen a5.out 1
          go_wp2
          repeat (go_quiet (fail); try go_wp2)
          refine bodyPost_ret (results_ctt rfl _ _ a9 50 #[.slice none 0 0, .slice none 0 0] (0, 0) _ rfl (by refine blk_put (cs := #[.slice none 0 0, .slice none 0 0]) ?_ 1 _ rfl; refine blk_put (cs := #[.slice none 0 0, .slice none 0 0]) ?_ 0 _ rfl; exact a5.out) Try.underlying50 rfl (by kernel_rfl)) rfl ?_
          exact ⟨_, _, rfl, by first | exact Kd.S_nil _ _ _ _ _ | exact Kd.N_nil _ _ _ _ _ | exact Kd.V_nil _ _ _ _ _ | exact Kd.Q_nil _ _ _ _ _ | exact Kd.R_nil _ _ _ _ _, by first | exact Kd.S_nil _ _ _ _ _ | exact Kd.N_nil _ _ _ _ _ | exact Kd.V_nil _ _ _ _ _ | exact Kd.Q_nil _ _ _ _ _ | exact Kd.R_nil _ _ _ _ _, by repeat (first | (with_reducible first | exact HB.out | apply below_alloc | apply pw_below_drewN | apply below_drew1 | refine below_set ?_ b7.out | refine below_set ?_ e3.out) | exact HB.out)⟩
         ·rw [if_neg q7] at H
          have v5 : decide (256 ≤ (wrap64 ((a2.length : Int) + (a1.length : Int)))) = false := decide_eq_false q7
          clear q7
          have H' := Aside0.mk H
          clear H
          have O7 := f5.out
          have O8 := e0.out
          have t6 : wc.cell? ⟨b1, 0, none⟩ = some (e4) := (blk_cell a6.out 0).trans rfl
          have t7 : wc.cell? ⟨b1, 1, none⟩ = some (e5) := (blk_cell a6.out 1).trans rfl
          have t8 := blk_frozen a6.out 0
          have t9 := blk_frozen a6.out 1
          obtain ⟨d5, d6, H8⟩ := Kd.S_slice a4.out
          subst H8
          obtain ⟨d7, d8, H9⟩ := Kd.S_slice a3.out
          subst H9
          go_wp2
          repeat (go_quiet (fail); try go_wp2)
          go_loopg [10, 11] E0 (fun kq N7 N8 w' => ∃ (g1 : Int) (e7 : Int), N7 = .int .i64 g1 ∧ N8 = .int .i64 e7 ∧ Aside0 (stanzaref07_Parse.l2 kq a8 g0 d0 ((rd_T66 a8 b5).f1) g1 e7 a2 a1 = some (r1, r2, r3, r4)) ∧ Aside0 (kq ≤ E0) ∧ Aside0 (Kd.R k66 66 w' w.heap.size (fun _ => True) (.slice (some h1) a8.length r8) a8) ∧ Aside0 (Kd.R (Kd.int .i32) 21 w' w.heap.size (fun _ => True) u8 d0) ∧ Aside0 (Kd.S k39 39 w' w.heap.size (fun k_ => some k_ ≠ (u8 : Value).ownBlock ∧ some k_ ≠ ((.slice d7 a1.length d8) : Value).ownBlock) (.slice d5 a2.length d6) a2) ∧ Aside0 (Kd.S k39 39 w' w.heap.size (fun k_ => some k_ ≠ (u8 : Value).ownBlock ∧ some k_ ≠ ((.slice d5 a2.length d6) : Value).ownBlock) (.slice d7 a1.length d8) a1) ∧ Aside0 (w'.heap[a9]? = some (.cells #[(.slice none 0 0), (.slice none 0 0)] 50 (0, 0))) ∧ Aside0 (w'.heap[b1]? = some (.cells #[(.slice d5 a2.length d6), (.slice d7 a1.length d8)] 50 (0, 0))) ∧ Aside0 (Below w.heap.size w w'))
          case atStart => exact ⟨(0), (0), (rfl), (rfl), H', ⟨Nat.le_refl _⟩, ⟨by exact b2.out⟩, ⟨by exact b4.out⟩, ⟨by exact a4.out⟩, ⟨by exact a3.out⟩, ⟨by exact a5.out⟩, ⟨by exact a6.out⟩, ⟨HB.out⟩⟩
          case round =>
           clear H'
           try clear c1
           try clear c2
           try clear p1
           try clear o2
           try clear p2
           try clear c3
           try clear p3
           try clear q3
           try clear D7
           try clear c4
           try clear p6
           try clear c9
           try clear o0
           try clear o4
           try clear q5
           try clear r5
           try clear q6
           try clear o6
           try clear j1
           try clear s0
           try clear v3
           try clear s1
           try clear s2
           try clear q7
           try clear v5
           try clear N9
           try clear O0
           try clear l5
           try clear l6
           try clear s8
           try clear s9
           try clear t2
           try clear t3
           try clear t6
           try clear t7
           try clear i4
           try clear i5
           try clear l7
           try clear l8
           try clear t0
           try clear t1
           try clear t4
           try clear t5
           try clear t8
           try clear t9
           try clear i6
           try clear i7
           try clear l9
           try clear m0
           try clear m1
           try clear i1
           try clear i2
           try clear i3
           try clear n7
           try clear n8
           try clear n9
           try clear p7
           try clear p8
           try clear p9
           try clear p2
           try clear p3
           try clear i8
           try clear h2
           try clear j7
           try clear p4
           try clear p6
           try clear q3
           try clear i9
           try clear h3
           try clear j8
           try clear p5
           obtain ⟨g1, e7, rfl, rfl, HA, o1, b2, b4, a4, a3, a5, a6, HB⟩ := hrel
           cases gk with
           | zero => exact absurd HA.out (by simp [stanzaref07_Parse.l2])
           | succ k3 =>
            have H := HA.out
            clear HA
            simp only [stanzaref07_Parse.l2] at H
            by_cases s3 : e7 < (d0.length : Int)
            ·rw [if_pos s3] at H
             have z5 : decide (e7 < (d0.length : Int)) = true := decide_eq_true s3
             clear s3
             by_cases x1 : 0 ≤ e7
             ·rw [if_pos x1] at H
              have F5 : decide (0 ≤ e7) = true := decide_eq_true x1
              clear x1
              by_cases q8 : (rd d0 e7) = 45
              ·rw [if_pos q8] at H
               have z6 : ((rd d0 e7) == 45) = true := beq_iff_eq.mpr q8
               have z7 : ((rd d0 e7) != 45) = false := bne_eq_false_iff_eq.mpr q8
               clear q8
               have H' := Aside0.mk H
               clear H
               obtain ⟨T6, T7, I0⟩ := Kd.R_slice b4.out
               subst I0
               have m9 : 0 ≤ (e7 : Int) := of_decide_eq_true (by assumption)
               have n0 : e7 < (d0.length : Int) := of_decide_eq_true (by assumption)
               obtain ⟨F6, y9, u0⟩ := Kd.at_int (Kd.R_reads' b4.out).2.2 e7 m9 n0
               cases y9
               replace m9 := eq_true m9
               replace n0 := eq_true n0
               go_wp2
               repeat (go_quiet (fail); try go_wp2)
               go_roundg k3
               case measure => have := i0.out; have := j9.out; have := o1.out; omega
               case rel => exact ⟨(wrap64 (g1 + 1)), (wrap64 (e7 + 1)), (rfl), (rfl), H', ⟨by have := i0.out; have := j9.out; have := o1.out; omega⟩, ⟨by exact b2.out⟩, ⟨by exact b4.out⟩, ⟨by exact a4.out⟩, ⟨by exact a3.out⟩, ⟨by exact a5.out⟩, ⟨by exact a6.out⟩, ⟨HB.out⟩⟩
              ·rw [if_neg q8] at H
               have z6 : ((rd d0 e7) == 45) = false := beq_eq_false_iff_ne.mpr q8
               have z7 : ((rd d0 e7) != 45) = true := bne_iff_ne.mpr q8
               have H' := Aside0.mk H
               clear H
               obtain ⟨T8, T9, I1⟩ := Kd.R_slice b4.out
               subst I1
               have m9 : 0 ≤ (e7 : Int) := of_decide_eq_true (by assumption)
               have n0 : e7 < (d0.length : Int) := of_decide_eq_true (by assumption)
               obtain ⟨F6, y9, u0⟩ := Kd.at_int (Kd.R_reads' b4.out).2.2 e7 m9 n0
               cases y9
               replace m9 := eq_true m9
               replace n0 := eq_true n0
               go_wp2
               repeat (go_quiet (fail); try go_wp2)
               go_roundg k3
               case measure => have := i0.out; have := j9.out; have := o1.out; omega
               case rel => exact ⟨(g1), (wrap64 (e7 + 1)), (rfl), (rfl), H', ⟨by have := i0.out; have := j9.out; have := o1.out; omega⟩, ⟨by exact b2.out⟩, ⟨by exact b4.out⟩, ⟨by exact a4.out⟩, ⟨by exact a3.out⟩, ⟨by exact a5.out⟩, ⟨by exact a6.out⟩, ⟨HB.out⟩⟩
             ·rw [if_neg x1] at H
              exact absurd H (by simp)
            ·rw [if_neg s3] at H
             have z5 : decide (e7 < (d0.length : Int)) = false := decide_eq_false s3
             clear s3
             replace H := Option.bind_eq_some_iff.mp H
             obtain ⟨⟨b3, b6, E1⟩, E2, H⟩ := H
             replace H : (if E1 = true then (if g1 = 0 then (if a2.length < 2932031007402 then (stanzaref07_Parse.l0 k3 a8 g0 (a2 ++ [(⟨b3, b6⟩ : S39)]) a1) else (none)) else (stanzaref07_Parse.l3 k3 a8 g0 ((rd_T66 a8 b5).f1) 0 a2 a1 b3 b6)) else (some (([] : List (S39)), ([] : List (S39)), 30, ((rd_T66 a8 b5).f1)))) = some (r1, r2, r3, r4) := H
             have E3 := Aside0.mk E2
             clear E2
             by_cases x2 : E1 = true
             ·subst x2
              have H1 : (if g1 = 0 then (if a2.length < 2932031007402 then (stanzaref07_Parse.l0 k3 a8 g0 (a2 ++ [(⟨b3, b6⟩ : S39)]) a1) else (none)) else (stanzaref07_Parse.l3 k3 a8 g0 ((rd_T66 a8 b5).f1) 0 a2 a1 b3 b6)) = some (r1, r2, r3, r4) := by rw [if_pos rfl] at H; exact H
              clear H
              have H := H1
              clear H1
              by_cases q9 : g1 = 0
              ·rw [if_pos q9] at H
               have z8 : (g1 == 0) = true := beq_iff_eq.mpr q9
               have z9 : (g1 != 0) = false := bne_eq_false_iff_eq.mpr q9
               clear q9
               by_cases x3 : a2.length < 2932031007402
               ·rw [if_pos x3] at H
                have F7 := Aside0.mk x3
                clear x3
                obtain ⟨q0, o8⟩ : ∃ y_ : List (S39), y_ = (a2 ++ [(⟨b3, b6⟩ : S39)]) := ⟨_, rfl⟩
                replace H : (stanzaref07_Parse.l0 k3 a8 g0 q0 a1) = some (r1, r2, r3, r4) := by first | (rw [o8]; with_reducible exact H) | (have m8 := (Option.bind_some _ _).symm.trans H; rw [o8]; with_reducible exact m8) | (have m8 := (Option.bind_some _ _).symm.trans H; with_reducible exact m8) | with_reducible exact H | (rw [o8]; exact H) | exact H
                have F8 := Aside0.mk o8
                clear o8
                have H' := Aside0.mk H
                clear H
                obtain ⟨k0, k5, I2⟩ := Kd.R_slice b4.out
                subst I2
                go_wp2_with (first | (go_at_call 57; (with_reducible refine (stanzaref07_pattern.calls k3 _ _ d0 (decide (g1 > 0)) b3 b6 true _ ?side1 ?side2 E3.out).mono ?_); (case side1 => repeat (first | exact (Kd.R_reads' b4.out).2.2 | (with_reducible refine Kd.C_alloc ?_ _) | (with_reducible refine Kd.C_drewN ?_ _) | (with_reducible refine Kd.C_drew ?_))); (case side2 => exact (Kd.R_reads' b4.out).2.1); rintro e V3 ⟨E4, E5, rfl, h4, j3, hb⟩; have b9 := Aside0.mk (Kd.R_below (by exact b2.out) hb); have c0 := Aside0.mk (Kd.R_elder' (by exact b4.out) (Kd.R_base h4) hb); have c7 := Aside0.mk (Kd.S_mono (Kd.S_told (Kd.S_told (Kd.S_old (by exact a4.out) hb) (Kd.R_base h4)) (Kd.R_base j3)) (fun _ h_ => h_.1)); have d2 := Aside0.mk (Kd.S_mono (Kd.S_told (Kd.S_told (Kd.S_old (by exact a3.out) hb) (Kd.R_base h4)) (Kd.R_base j3)) (fun _ h_ => h_.1)); have e8 := Aside0.mk (Kd.R_lower (Kd.R_new' h4 (Kd.R_lt (by exact b4.out))) (below_size (by exact HB.out))); have e9 := Aside0.mk (Kd.R_lower j3 (below_size (by exact HB.out))); have f2 := Aside0.mk (blk_below (g := a9) (o := .cells #[.slice none 0 0, .slice none 0 0] 50 (0, 0)) (by exact a5.out) hb); have f4 := Aside0.mk (blk_below (g := b1) (o := .cells #[.slice d5 a2.length d6, .slice d7 a1.length d8] 50 (0, 0)) (by exact a6.out) hb); have g4 := Aside0.mk (below_step (by exact HB.out) hb); clear b2; clear b4; clear a4; clear a3; clear a5; clear a6; clear HB; have b2 := b9; have b4 := c0; have a4 := c7; have a3 := d2; have e1 := e8; have e2 := e9; have a5 := f2; have a6 := f4; have HB := g4; clear b9 c0 c7 d2 e8 e9 f2 f4 g4; (try clear hb); (try clear D5); (try clear hk); (try clear hi); (try clear h4); (try clear j3)) | ((with_reducible refine gate_dst (N := 12) rfl ?_); refine box_event ?hg (N := 12) ?hd (cs := #[.slice none 0 0, .slice none 0 0]) (t := 39) ?hr ?_; (case hd => rfl); (case hg => rfl); (case hr => first | (go_simp; done) | (go_simp; rfl)); intro a7 hg u1 hbox hb; have b9 := Aside0.mk (Kd.R_below (by exact b2.out) hb); have c0 := Aside0.mk (Kd.R_below (by exact b4.out) hb); have c7 := Aside0.mk (Kd.S_below (Kd.S_elderB (by exact a4.out) a7 (Nat.le_of_eq hg.symm)) hb); have d2 := Aside0.mk (Kd.S_below (Kd.S_elderB (by exact a3.out) a7 (Nat.le_of_eq hg.symm)) hb); have e8 := Aside0.mk (Kd.R_below (by exact e1.out) hb); have e9 := Aside0.mk (Kd.R_below (by exact e2.out) hb); have f2 := Aside0.mk (blk_below (g := a9) (o := .cells #[.slice none 0 0, .slice none 0 0] 50 (0, 0)) (by exact a5.out) hb); have f4 := Aside0.mk (blk_below (g := b1) (o := .cells #[.slice d5 a2.length d6, .slice d7 a1.length d8] 50 (0, 0)) (by exact a6.out) hb); have g4 := Aside0.mk (below_step (by exact HB.out) hb); have j4 := Aside0.mk (hbox); have n1 := Aside0.mk ((by rw [hg]; exact (below_size (by exact HB.out)) : w.heap.size ≤ a7)); have n2 := Aside0.mk ((by rw [hg]; exact (below_size (by exact HB.out)) : w.heap.size ≤ a7)); have n3 := Aside0.mk ((by rw [hg]; exact Nat.ne_of_lt (blk_lt (g := a9) (o := .cells #[.slice none 0 0, .slice none 0 0] 50 (0, 0)) (by exact a5.out)) : a9 ≠ a7)); have n4 := Aside0.mk ((by rw [hg]; exact Nat.ne_of_gt (blk_lt (g := a9) (o := .cells #[.slice none 0 0, .slice none 0 0] 50 (0, 0)) (by exact a5.out)) : a7 ≠ a9)); have n5 := Aside0.mk ((by rw [hg]; exact Nat.ne_of_lt (blk_lt (g := b1) (o := .cells #[.slice d5 a2.length d6, .slice d7 a1.length d8] 50 (0, 0)) (by exact a6.out)) : b1 ≠ a7)); have n6 := Aside0.mk ((by rw [hg]; exact Nat.ne_of_gt (blk_lt (g := b1) (o := .cells #[.slice d5 a2.length d6, .slice d7 a1.length d8] 50 (0, 0)) (by exact a6.out)) : a7 ≠ b1)); clear b2; clear b4; clear a4; clear a3; clear e1; clear e2; clear a5; clear a6; clear HB; have b2 := b9; have b4 := c0; have a4 := c7; have a3 := d2; have e1 := e8; have e2 := e9; have a5 := f2; have a6 := f4; have HB := g4; have b0 := j4; have A0 := n1; have h6 := n2; have d9 := n3; have f8 := n4; have e6 := n5; have f9 := n6; clear b9 c0 c7 d2 e8 e9 f2 f4 g4 j4 n1 n2 n3 n4 n5 n6; clear hb hbox hg; obtain ⟨g2, g3, I3⟩ := Kd.R_slice e1.out; subst I3; have O9 := f8.out; have P0 := d9.out; have P1 := f9.out; have P2 := e6.out; have A9 : u1.cell? ⟨a7, 0, none⟩ = some (.slice none 0 0) := (blk_cell b0.out 0).trans rfl; have B0 : u1.cell? ⟨a7, 1, none⟩ = some (.slice none 0 0) := (blk_cell b0.out 1).trans rfl; have B1 := blk_frozen b0.out 0; have B2 := blk_frozen b0.out 1; obtain ⟨g5, g6, I4⟩ := Kd.R_slice e2.out; subst I4) | ((with_reducible refine gate_store (t := 39) (p := 12) rfl ?_); (try (rw [drewN_self u1]; generalize hq_ : World.drewN u1 _ = u1; have b9 := Aside0.mk (Kd.R_at hq_ b2.out); have c0 := Aside0.mk (Kd.R_at hq_ b4.out); have c7 := Aside0.mk (Kd.S_at hq_ a4.out); have d2 := Aside0.mk (Kd.S_at hq_ a3.out); have e8 := Aside0.mk (Kd.R_at hq_ e1.out); have e9 := Aside0.mk (Kd.R_at hq_ e2.out); have f2 := Aside0.mk (blk_at hq_ a5.out); have f4 := Aside0.mk (blk_at hq_ a6.out); have g4 := Aside0.mk (blk_at hq_ b0.out); have j4 := Aside0.mk (below_at hq_ HB.out); clear hq_ b2 b4 a4 a3 e1 e2 a5 a6 b0 HB; have b2 := b9; have b4 := c0; have a4 := c7; have a3 := d2; have e1 := e8; have e2 := e9; have a5 := f2; have a6 := f4; have b0 := g4; have HB := j4; clear b9 c0 c7 d2 e8 e9 f2 f4 g4 j4)); refine store_event (t := 39) (p := 12) (v := ?vo_w51) (w1 := ((u1.setCell ⟨a7, 0, none⟩ (.slice g2 b3.length g3)).setCell ⟨a7, 1, none⟩ (.slice g5 b6.length g6))) ?hg ?ho ?hn ?hr ?_; (case ho => rfl); (case hg => rfl); (case hn => rfl); (case hr => first | (go_simp; done) | (go_simp; rfl)); intro j5 hw; have b9 : Aside0 (Kd.R k66 66 j5 w.heap.size (fun _ => True) (.slice (some h1) a8.length r8) a8) := ⟨(by rw [hw]; exact (by exact Kd.R_mono (Kd.R_far (p := ⟨a7, 1, none⟩) (Kd.R_far (p := ⟨a7, 0, none⟩) (Kd.R_types b2.out b0.out (by decide)) (fun _ hk => hk.2) (.slice g2 b3.length g3)) (fun _ hk => hk.2) (.slice g5 b6.length g6)) (fun _ hk => trivial)))⟩; have c0 : Aside0 (Kd.R (Kd.int .i32) 21 j5 w.heap.size (fun k_ => some k_ ≠ (.slice g2 b3.length g3 : Value).ownBlock) (.slice k0 d0.length k5) d0) := ⟨(by rw [hw]; exact (by exact Kd.R_mono (Kd.R_far (p := ⟨a7, 1, none⟩) (Kd.R_far (p := ⟨a7, 0, none⟩) (Kd.R_types b4.out b0.out (by decide)) (fun _ hk => hk.2) (.slice g2 b3.length g3)) (fun _ hk => hk.2) (.slice g5 b6.length g6)) (fun _ hk => hk.1.2)))⟩; have c7 : Aside0 (Kd.S k39 39 j5 w.heap.size (fun k_ => some k_ ≠ (.slice k0 d0.length k5 : Value).ownBlock ∧ some k_ ≠ (.slice d7 a1.length d8 : Value).ownBlock ∧ some k_ ≠ (.slice g2 b3.length g3 : Value).ownBlock ∧ some k_ ≠ (.slice g5 b6.length g6 : Value).ownBlock ∧ k_ ≠ a7) (.slice d5 a2.length d6) a2) := ⟨(by rw [hw]; exact (by exact Kd.S_mono (Kd.S_far (p := ⟨a7, 1, none⟩) (Kd.S_far (p := ⟨a7, 0, none⟩) (Kd.S_mono a4.out (fun k_ hk => (⟨hk, hk.2⟩ : _ ∧ k_ ≠ a7))) (fun _ hk => hk.2) (.slice g2 b3.length g3)) (fun _ hk => hk.2) (.slice g5 b6.length g6)) (fun _ hk => ⟨hk.1.1.1.1.1, ⟨hk.1.1.1.1.2, ⟨hk.1.1.1.2, ⟨hk.1.1.2, hk.1.2⟩⟩⟩⟩)))⟩; have d2 : Aside0 (Kd.S k39 39 j5 w.heap.size (fun k_ => some k_ ≠ (.slice k0 d0.length k5 : Value).ownBlock ∧ some k_ ≠ (.slice d5 a2.length d6 : Value).ownBlock ∧ some k_ ≠ (.slice g2 b3.length g3 : Value).ownBlock ∧ some k_ ≠ (.slice g5 b6.length g6 : Value).ownBlock ∧ k_ ≠ a7) (.slice d7 a1.length d8) a1) := ⟨(by rw [hw]; exact (by exact Kd.S_mono (Kd.S_far (p := ⟨a7, 1, none⟩) (Kd.S_far (p := ⟨a7, 0, none⟩) (Kd.S_mono a3.out (fun k_ hk => (⟨hk, hk.2⟩ : _ ∧ k_ ≠ a7))) (fun _ hk => hk.2) (.slice g2 b3.length g3)) (fun _ hk => hk.2) (.slice g5 b6.length g6)) (fun _ hk => ⟨hk.1.1.1.1.1, ⟨hk.1.1.1.1.2, ⟨hk.1.1.1.2, ⟨hk.1.1.2, hk.1.2⟩⟩⟩⟩)))⟩; have e8 : Aside0 (Kd.R (Kd.int .i32) 21 j5 w.heap.size (fun k_ => some k_ ≠ (.slice k0 d0.length k5 : Value).ownBlock) (.slice g2 b3.length g3) b3) := ⟨(by rw [hw]; exact (by exact Kd.R_mono (Kd.R_far (p := ⟨a7, 1, none⟩) (Kd.R_far (p := ⟨a7, 0, none⟩) (Kd.R_types e1.out b0.out (by decide)) (fun _ hk => hk.2) (.slice g2 b3.length g3)) (fun _ hk => hk.2) (.slice g5 b6.length g6)) (fun _ hk => hk.1.2)))⟩; have e9 : Aside0 (Kd.R (Kd.int .u8) 5 j5 w.heap.size (fun _ => True) (.slice g5 b6.length g6) b6) := ⟨(by rw [hw]; exact (by exact Kd.R_mono (Kd.R_far (p := ⟨a7, 1, none⟩) (Kd.R_far (p := ⟨a7, 0, none⟩) (Kd.R_types e2.out b0.out (by decide)) (fun _ hk => hk.2) (.slice g2 b3.length g3)) (fun _ hk => hk.2) (.slice g5 b6.length g6)) (fun _ hk => trivial)))⟩; have f2 : Aside0 (j5.heap[a9]? = some (.cells #[.slice none 0 0, .slice none 0 0] 50 (0, 0))) := ⟨(by rw [hw]; exact (by refine blk_far ?_ d9.out _; refine blk_far ?_ d9.out _; exact a5.out))⟩; have f4 : Aside0 (j5.heap[b1]? = some (.cells #[.slice d5 a2.length d6, .slice d7 a1.length d8] 50 (0, 0))) := ⟨(by rw [hw]; exact (by refine blk_far ?_ e6.out _; refine blk_far ?_ e6.out _; exact a6.out))⟩; have g4 : Aside0 (j5.heap[a7]? = some (.cells #[.slice g2 b3.length g3, .slice g5 b6.length g6] 39 (0, 0))) := ⟨(by rw [hw]; exact (by refine blk_put (cs := #[.slice g2 b3.length g3, .slice none 0 0]) ?_ 1 _ rfl; refine blk_put (cs := #[.slice none 0 0, .slice none 0 0]) ?_ 0 _ rfl; exact b0.out))⟩; have j4 : Aside0 (Below w.heap.size w j5) := ⟨(by rw [hw]; exact (by repeat (first | (with_reducible first | exact HB.out | apply below_alloc | apply pw_below_drewN | apply below_drew1 | refine below_set ?_ b7.out | refine below_set ?_ e3.out | refine below_set ?_ h6.out) | exact HB.out)))⟩; clear hw; clear b2; clear b4; clear a4; clear a3; clear e1; clear e2; clear a5; clear a6; clear b0; clear HB; have b2 := b9; have b4 := c0; have a4 := c7; have a3 := d2; have e1 := e8; have e2 := e9; have a5 := f2; have a6 := f4; have b0 := g4; have HB := j4; clear b9 c0 c7 d2 e8 e9 f2 f4 g4 j4; have P3 := f5.out; have P4 := e0.out; have B3 : j5.cell? ⟨b1, 0, none⟩ = some (.slice d5 a2.length d6) := (blk_cell a6.out 0).trans rfl; have B4 : j5.cell? ⟨b1, 1, none⟩ = some (.slice d7 a1.length d8) := (blk_cell a6.out 1).trans rfl; have B5 := blk_frozen a6.out 0; have B6 := blk_frozen a6.out 1; have B7 : j5.cell? ⟨a7, 0, none⟩ = some (.slice g2 b3.length g3) := (blk_cell b0.out 0).trans rfl; have B8 : j5.cell? ⟨a7, 1, none⟩ = some (.slice g5 b6.length g6) := (blk_cell b0.out 1).trans rfl; have B9 := blk_frozen b0.out 0; have C0 := blk_frozen b0.out 1) | ((with_reducible refine gate_builtin (b := .append) (xs := #[.tmp 100, .tmp 102]) rfl ?_); at_builtin; refine Kd.S_append k39 (w0 := w) w.heap.size rfl (.tmp 100) (.tmp 102) 22 39 (.agg #[(.slice none 0 0), (.slice none 0 0)]) 48 rfl Try.underlying22 info39 rfl (by decide) (by omega) (.slice d5 a2.length d6) a2 (⟨b3, b6⟩ : S39) [.slice g2 b3.length g3, .slice g5 b6.length g6] (fun k_ => some k_ ≠ (.slice k0 d0.length k5 : Value).ownBlock ∧ some k_ ≠ (.slice d7 a1.length d8 : Value).ownBlock ∧ k_ ≠ a7) (fun k_ => some k_ = (.slice g2 b3.length g3 : Value).ownBlock ∨ some k_ = (.slice g5 b6.length g6 : Value).ownBlock) rfl rfl ?aP (fun k_ hk_ => hk_.elim (fun h_ => ((Kd.R_mono (ok' := fun k_ => ((fun k_ => some k_ ≠ (.slice k0 d0.length k5 : Value).ownBlock ∧ some k_ ≠ (.slice d7 a1.length d8 : Value).ownBlock ∧ k_ ≠ a7)) k_ ∧ some k_ ≠ (.slice d5 a2.length d6 : Value).ownBlock) (Kd.R_types (Kd.R_apart' (Kd.R_apart' (e1.out) (Kd.S_typed a3.out) (by decide)) (Kd.S_typed a4.out) (by decide)) b0.out (by decide)) (fun k_ hk => ⟨⟨hk.1.1.1, ⟨hk.1.1.2, hk.2⟩⟩, hk.1.2⟩))).1 k_ h_.symm) (fun h_ => ((Kd.R_mono (ok' := fun k_ => ((fun k_ => some k_ ≠ (.slice k0 d0.length k5 : Value).ownBlock ∧ some k_ ≠ (.slice d7 a1.length d8 : Value).ownBlock ∧ k_ ≠ a7)) k_ ∧ some k_ ≠ (.slice d5 a2.length d6 : Value).ownBlock) (Kd.R_types (Kd.R_apart' (Kd.R_apart' (Kd.R_apart' (e2.out) (Kd.R_typed b4.out) (by decide)) (Kd.S_typed a3.out) (by decide)) (Kd.S_typed a4.out) (by decide)) b0.out (by decide)) (fun k_ hk => ⟨⟨hk.1.1.1.2, ⟨hk.1.1.2, hk.2⟩⟩, hk.1.2⟩))).1 k_ h_.symm)) ?aF ?aO ?aB ?aS ?aL ?_; (case aP => exact k39_mkM _ _ _ (⟨b3, b6⟩ : S39) (Kd.R_mono (Kd.R_tight rfl (Kd.R_mono (ok' := fun k_ => ((fun k_ => some k_ ≠ (.slice k0 d0.length k5 : Value).ownBlock ∧ some k_ ≠ (.slice d7 a1.length d8 : Value).ownBlock ∧ k_ ≠ a7)) k_ ∧ some k_ ≠ (.slice d5 a2.length d6 : Value).ownBlock) (Kd.R_types (Kd.R_apart' (Kd.R_apart' (e1.out) (Kd.S_typed a3.out) (by decide)) (Kd.S_typed a4.out) (by decide)) b0.out (by decide)) (fun k_ hk => ⟨⟨hk.1.1.1, ⟨hk.1.1.2, hk.2⟩⟩, hk.1.2⟩))) (fun _ h_ => Or.inl h_)) (Kd.R_mono (Kd.R_tight rfl (Kd.R_mono (ok' := fun k_ => ((fun k_ => some k_ ≠ (.slice k0 d0.length k5 : Value).ownBlock ∧ some k_ ≠ (.slice d7 a1.length d8 : Value).ownBlock ∧ k_ ≠ a7)) k_ ∧ some k_ ≠ (.slice d5 a2.length d6 : Value).ownBlock) (Kd.R_types (Kd.R_apart' (Kd.R_apart' (Kd.R_apart' (e2.out) (Kd.R_typed b4.out) (by decide)) (Kd.S_typed a3.out) (by decide)) (Kd.S_typed a4.out) (by decide)) b0.out (by decide)) (fun k_ hk => ⟨⟨hk.1.1.1.2, ⟨hk.1.1.2, hk.2⟩⟩, hk.1.2⟩))) (fun _ h_ => Or.inr (h_)))); (case aB => exact (by exact HB.out)); (case aF => exact (fun k_ hk => ⟨Kd.fresh' (Kd.R_lt (by exact b4.out)) k_ hk, Kd.fresh' (Kd.S_lt (by exact a3.out)) k_ hk, Kd.freshB (g := a7) (o := .cells #[.slice g2 b3.length g3, .slice g5 b6.length g6] 39 (0, 0)) (by exact b0.out) k_ hk⟩)); (case aO => exact (by exact Kd.S_mono a4.out (fun k_ hk => ⟨⟨hk.1, ⟨hk.2.1, hk.2.2.2.2⟩⟩, fun e_ => e_.elim (fun h_ => hk.2.2.1 h_) (fun h_ => hk.2.2.2.1 h_)⟩))); (case aS => exact (below_size (by exact HB.out))); (case aL => have := F7.out; omega); intro U0 G8 ho hb hg hat; rw [← F8.out] at ho; have b9 := Aside0.mk (Kd.R_over' (by exact b2.out) (Kd.S_typed (by exact a4.out)) (by decide) hg); have c0 := Aside0.mk (Kd.R_over' (by exact b4.out) (Kd.S_typed (by exact a4.out)) (by decide) hg); have c7 := Aside0.mk (Kd.S_after (ok := (fun k_ => some k_ ≠ (.slice k0 d0.length k5 : Value).ownBlock ∧ some k_ ≠ (.slice g2 b3.length g3 : Value).ownBlock ∧ some k_ ≠ (.slice g5 b6.length g6 : Value).ownBlock ∧ k_ ≠ a7)) (by exact Kd.S_mono a3.out (fun _ hk => ⟨⟨hk.1, ⟨hk.2.2.1, ⟨hk.2.2.2.1, hk.2.2.2.2⟩⟩⟩, hk.2.1⟩)) hg hat); have d2 := Aside0.mk (blk_grown (g := a9) (o := .cells #[.slice none 0 0, .slice none 0 0] 50 (0, 0)) (by exact a5.out) hg (Kd.S_ne a4.out a5.out (by decide))); have e8 := Aside0.mk (blk_grown (g := b1) (o := .cells #[.slice d5 a2.length d6, .slice d7 a1.length d8] 50 (0, 0)) (by exact a6.out) hg (Kd.S_ne a4.out a6.out (by decide))); have e9 := Aside0.mk (blk_grown (g := a7) (o := .cells #[.slice g2 b3.length g3, .slice g5 b6.length g6] 39 (0, 0)) (by exact b0.out) hg (Kd.S_away a4.out (fun _ hk => hk.2.2.2.2))); have f2 := Aside0.mk (hb); have f4 := Aside0.mk (ho); clear b2; clear b4; clear a3; clear a5; clear a6; clear b0; clear HB; clear a4; clear e1; clear e2; have b2 := b9; have b4 := c0; have a3 := c7; have a5 := d2; have a6 := e8; have b0 := e9; have HB := f2; have A1 := f4; clear b9 c0 c7 d2 e8 e9 f2 f4; clear ho hb hg hat; obtain ⟨v6, v9, I5⟩ := Kd.S_slice A1.out; subst I5; have C1 : G8.cell? ⟨b1, 0, none⟩ = some (.slice d5 a2.length d6) := (blk_cell a6.out 0).trans rfl; have C2 : G8.cell? ⟨b1, 1, none⟩ = some (.slice d7 a1.length d8) := (blk_cell a6.out 1).trans rfl; have C3 := blk_frozen a6.out 0; have C4 := blk_frozen a6.out 1))
                go_roundg k3
                case measure => have := i0.out; have := j9.out; have := o1.out; omega
                case rel => exact ⟨(g0), (q0), (a1), (.slice v6 q0.length v9), (.slice d7 a1.length d8), (rfl), H', ⟨by have := i0.out; have := j9.out; have := o1.out; omega⟩, ⟨by exact Kd.R_mono (Kd.R_far (p := ⟨b1, 0, none⟩) (Kd.R_types b2.out a6.out (by decide)) (fun _ hk => hk.2) (.slice v6 q0.length v9)) (fun _ hk => trivial)⟩, ⟨by exact Kd.S_mono (Kd.S_far (p := ⟨b1, 0, none⟩) (Kd.S_types A1.out a6.out (by decide)) (fun _ hk => hk.2) (.slice v6 q0.length v9)) (fun _ hk => hk.1.2.1)⟩, ⟨by exact Kd.S_mono (Kd.S_far (p := ⟨b1, 0, none⟩) (Kd.S_types a3.out a6.out (by decide)) (fun _ hk => hk.2) (.slice v6 q0.length v9)) (fun _ hk => hk.1.2)⟩, ⟨by refine blk_far ?_ e0.out _; exact a5.out⟩, ⟨by refine blk_put (cs := #[.slice d5 a2.length d6, .slice d7 a1.length d8]) ?_ 0 _ rfl; exact a6.out⟩, ⟨by repeat (first | (with_reducible first | exact HB.out | apply below_alloc | apply pw_below_drewN | apply below_drew1 | refine below_set ?_ b7.out | refine below_set ?_ e3.out | refine below_set ?_ h6.out) | exact HB.out)⟩⟩
               ·rw [if_neg x3] at H
                exact absurd H (by simp)
              ·rw [if_neg q9] at H
               have z8 : (g1 == 0) = false := beq_eq_false_iff_ne.mpr q9
               have z9 : (g1 != 0) = true := bne_iff_ne.mpr q9
               have H' := Aside0.mk H
               clear H
               obtain ⟨U1, U2, I6⟩ := Kd.R_slice b4.out
               subst I6
               go_wp2_with (first | (go_at_call 57; (with_reducible refine (stanzaref07_pattern.calls k3 _ _ d0 (decide (g1 > 0)) b3 b6 true _ ?side1 ?side2 E3.out).mono ?_); (case side1 => repeat (first | exact (Kd.R_reads' b4.out).2.2 | (with_reducible refine Kd.C_alloc ?_ _) | (with_reducible refine Kd.C_drewN ?_ _) | (with_reducible refine Kd.C_drew ?_))); (case side2 => exact (Kd.R_reads' b4.out).2.1); rintro e V4 ⟨E4, E5, rfl, h4, j3, hb⟩; have b9 := Aside0.mk (Kd.R_below (by exact b2.out) hb); have c0 := Aside0.mk (Kd.R_elder' (by exact b4.out) (Kd.R_base h4) hb); have c7 := Aside0.mk (Kd.S_mono (Kd.S_told (Kd.S_told (Kd.S_old (by exact a4.out) hb) (Kd.R_base h4)) (Kd.R_base j3)) (fun _ h_ => h_.1)); have d2 := Aside0.mk (Kd.S_mono (Kd.S_told (Kd.S_told (Kd.S_old (by exact a3.out) hb) (Kd.R_base h4)) (Kd.R_base j3)) (fun _ h_ => h_.1)); have e8 := Aside0.mk (Kd.R_lower (Kd.R_new' h4 (Kd.R_lt (by exact b4.out))) (below_size (HB.out))); have e9 := Aside0.mk (Kd.R_lower j3 (below_size (HB.out))); have f2 := Aside0.mk (blk_below a5.out hb); have f4 := Aside0.mk (blk_below a6.out hb); have g4 := Aside0.mk (below_step (HB.out) hb); clear b2; clear b4; clear a4; clear a3; clear a5; clear a6; clear HB; have b2 := b9; have b4 := c0; have a4 := c7; have a3 := d2; have e1 := e8; have e2 := e9; have a5 := f2; have a6 := f4; have HB := g4; clear b9 c0 c7 d2 e8 e9 f2 f4 g4; (try clear hb); (try clear D5); (try clear hk); (try clear hi); (try clear h4); (try clear j3)) | ((with_reducible refine gate_dst (N := 12) rfl ?_); refine box_event ?hg (N := 12) ?hd (cs := #[.slice none 0 0, .slice none 0 0]) (t := 39) ?hr ?_; (case hd => rfl); (case hg => rfl); (case hr => first | (go_simp; done) | (go_simp; rfl)); intro a7 hg G9 hbox hb; have b9 := Aside0.mk (Kd.R_below (by exact b2.out) hb); have c0 := Aside0.mk (Kd.R_below (by exact b4.out) hb); have c7 := Aside0.mk (Kd.S_below (Kd.S_elderB (by exact a4.out) a7 (Nat.le_of_eq hg.symm)) hb); have d2 := Aside0.mk (Kd.S_below (Kd.S_elderB (by exact a3.out) a7 (Nat.le_of_eq hg.symm)) hb); have e8 := Aside0.mk (Kd.R_below (by exact e1.out) hb); have e9 := Aside0.mk (Kd.R_below (by exact e2.out) hb); have f2 := Aside0.mk (blk_below a5.out hb); have f4 := Aside0.mk (blk_below a6.out hb); have g4 := Aside0.mk (below_step (HB.out) hb); have j4 := Aside0.mk (hbox); have n1 := Aside0.mk ((by rw [hg]; exact (below_size (HB.out)) : w.heap.size ≤ a7)); have n2 := Aside0.mk ((by rw [hg]; exact (below_size (HB.out)) : w.heap.size ≤ a7)); have n3 := Aside0.mk ((by rw [hg]; exact Nat.ne_of_lt (blk_lt a5.out) : a9 ≠ a7)); have n4 := Aside0.mk ((by rw [hg]; exact Nat.ne_of_gt (blk_lt a5.out) : a7 ≠ a9)); have n5 := Aside0.mk ((by rw [hg]; exact Nat.ne_of_lt (blk_lt a6.out) : b1 ≠ a7)); have n6 := Aside0.mk ((by rw [hg]; exact Nat.ne_of_gt (blk_lt a6.out) : a7 ≠ b1)); clear b2; clear b4; clear a4; clear a3; clear e1; clear e2; clear a5; clear a6; clear HB; have b2 := b9; have b4 := c0; have a4 := c7; have a3 := d2; have e1 := e8; have e2 := e9; have a5 := f2; have a6 := f4; have HB := g4; have b0 := j4; have A0 := n1; have h6 := n2; have d9 := n3; have f8 := n4; have e6 := n5; have f9 := n6; clear b9 c0 c7 d2 e8 e9 f2 f4 g4 j4 n1 n2 n3 n4 n5 n6; clear hb hbox hg; obtain ⟨g7, g8, I7⟩ := Kd.R_slice e1.out; subst I7; have P5 := f8.out; have P6 := d9.out; have P7 := f9.out; have P8 := e6.out; have C5 : G9.cell? ⟨a7, 0, none⟩ = some (.slice none 0 0) := (blk_cell b0.out 0).trans rfl; have C6 : G9.cell? ⟨a7, 1, none⟩ = some (.slice none 0 0) := (blk_cell b0.out 1).trans rfl; have C7 := blk_frozen b0.out 0; have C8 := blk_frozen b0.out 1; obtain ⟨g9, h0, I8⟩ := Kd.R_slice e2.out; subst I8))
               go_loopg [14] k3 (fun kq O1 w' => ∃ (d1 : Int), O1 = .int .i64 d1 ∧ Aside0 (stanzaref07_Parse.l3 kq a8 g0 ((rd_T66 a8 b5).f1) d1 a2 a1 b3 b6 = some (r1, r2, r3, r4)) ∧ Aside0 (kq ≤ k3) ∧ Aside0 (Kd.R k66 66 w' w.heap.size (fun _ => True) (.slice (some h1) a8.length r8) a8) ∧ Aside0 (Kd.S k39 39 w' w.heap.size (fun k_ => some k_ ≠ ((.slice d7 a1.length d8) : Value).ownBlock ∧ some k_ ≠ ((.slice g7 b3.length g8) : Value).ownBlock ∧ some k_ ≠ ((.slice g9 b6.length h0) : Value).ownBlock ∧ k_ ≠ a7) (.slice d5 a2.length d6) a2) ∧ Aside0 (Kd.S k39 39 w' w.heap.size (fun k_ => some k_ ≠ ((.slice d5 a2.length d6) : Value).ownBlock ∧ some k_ ≠ ((.slice g7 b3.length g8) : Value).ownBlock ∧ some k_ ≠ ((.slice g9 b6.length h0) : Value).ownBlock ∧ k_ ≠ a7) (.slice d7 a1.length d8) a1) ∧ Aside0 (Kd.R (Kd.int .i32) 21 w' w.heap.size (fun _ => True) (.slice g7 b3.length g8) b3) ∧ Aside0 (Kd.R (Kd.int .u8) 5 w' w.heap.size (fun _ => True) (.slice g9 b6.length h0) b6) ∧ Aside0 (w'.heap[a9]? = some (.cells #[(.slice none 0 0), (.slice none 0 0)] 50 (0, 0))) ∧ Aside0 (w'.heap[b1]? = some (.cells #[(.slice d5 a2.length d6), (.slice d7 a1.length d8)] 50 (0, 0))) ∧ Aside0 (w'.heap[a7]? = some (.cells #[(.slice g7 b3.length g8), (.slice g9 b6.length h0)] 39 (0, 0))) ∧ Aside0 (Below w.heap.size w w'))
               case atStart => exact ⟨(0), (rfl), H', ⟨Nat.le_refl _⟩, ⟨by exact Kd.R_mono (Kd.R_far (p := ⟨a7, 1, none⟩) (Kd.R_far (p := ⟨a7, 0, none⟩) (Kd.R_types b2.out b0.out (by decide)) (fun _ hk => hk.2) (.slice g7 b3.length g8)) (fun _ hk => hk.2) (.slice g9 b6.length h0)) (fun _ hk => trivial)⟩, ⟨by exact Kd.S_mono (Kd.S_far (p := ⟨a7, 1, none⟩) (Kd.S_far (p := ⟨a7, 0, none⟩) (Kd.S_mono a4.out (fun k_ hk => (⟨hk, hk.2⟩ : _ ∧ k_ ≠ a7))) (fun _ hk => hk.2) (.slice g7 b3.length g8)) (fun _ hk => hk.2) (.slice g9 b6.length h0)) (fun _ hk => ⟨hk.1.1.1.1.2, ⟨hk.1.1.1.2, ⟨hk.1.1.2, hk.1.2⟩⟩⟩)⟩, ⟨by exact Kd.S_mono (Kd.S_far (p := ⟨a7, 1, none⟩) (Kd.S_far (p := ⟨a7, 0, none⟩) (Kd.S_mono a3.out (fun k_ hk => (⟨hk, hk.2⟩ : _ ∧ k_ ≠ a7))) (fun _ hk => hk.2) (.slice g7 b3.length g8)) (fun _ hk => hk.2) (.slice g9 b6.length h0)) (fun _ hk => ⟨hk.1.1.1.1.2, ⟨hk.1.1.1.2, ⟨hk.1.1.2, hk.1.2⟩⟩⟩)⟩, ⟨by exact Kd.R_mono (Kd.R_far (p := ⟨a7, 1, none⟩) (Kd.R_far (p := ⟨a7, 0, none⟩) (Kd.R_types e1.out b0.out (by decide)) (fun _ hk => hk.2) (.slice g7 b3.length g8)) (fun _ hk => hk.2) (.slice g9 b6.length h0)) (fun _ hk => trivial)⟩, ⟨by exact Kd.R_mono (Kd.R_far (p := ⟨a7, 1, none⟩) (Kd.R_far (p := ⟨a7, 0, none⟩) (Kd.R_types e2.out b0.out (by decide)) (fun _ hk => hk.2) (.slice g7 b3.length g8)) (fun _ hk => hk.2) (.slice g9 b6.length h0)) (fun _ hk => trivial)⟩, ⟨by refine blk_far ?_ d9.out _; refine blk_far ?_ d9.out _; exact a5.out⟩, ⟨by refine blk_far ?_ e6.out _; refine blk_far ?_ e6.out _; exact a6.out⟩, ⟨by refine blk_put (cs := #[.slice g7 b3.length g8, .slice none 0 0]) ?_ 1 _ rfl; refine blk_put (cs := #[.slice none 0 0, .slice none 0 0]) ?_ 0 _ rfl; exact b0.out⟩, ⟨by repeat (first | (with_reducible first | exact HB.out | apply below_alloc | apply pw_below_drewN | apply below_drew1 | refine below_set ?_ b7.out | refine below_set ?_ e3.out | refine below_set ?_ h6.out) | exact HB.out)⟩⟩
               case round =>
                clear H'
                try clear c1
                try clear c2
                try clear p1
                try clear o2
                try clear p2
                try clear c3
                try clear p3
                try clear q3
                try clear D7
                try clear c4
                try clear c5
                try clear c6
                try clear p6
                try clear c9
                try clear o0
                try clear o4
                try clear q5
                try clear r5
                try clear q6
                try clear o6
                try clear j1
                try clear s0
                try clear v3
                try clear s1
                try clear s2
                try clear q7
                try clear v5
                try clear N9
                try clear O0
                try clear s3
                try clear z5
                try clear x1
                try clear F5
                try clear q8
                try clear z6
                try clear z7
                try clear V5
                try clear V6
                try clear U3
                try clear V7
                try clear V8
                try clear U4
                try clear x2
                try clear q9
                try clear z8
                try clear z9
                try clear x3
                try clear V9
                try clear W0
                try clear W1
                try clear W2
                try clear W3
                try clear W4
                try clear W5
                try clear l5
                try clear l6
                try clear s8
                try clear s9
                try clear t2
                try clear t3
                try clear t6
                try clear t7
                try clear A9
                try clear B0
                try clear i4
                try clear i5
                try clear B3
                try clear B4
                try clear B7
                try clear B8
                try clear C1
                try clear C2
                try clear C5
                try clear C6
                try clear l7
                try clear l8
                try clear t0
                try clear t1
                try clear t4
                try clear t5
                try clear t8
                try clear t9
                try clear B1
                try clear B2
                try clear i6
                try clear i7
                try clear B5
                try clear B6
                try clear B9
                try clear C0
                try clear C3
                try clear C4
                try clear C7
                try clear C8
                try clear l9
                try clear m0
                try clear m1
                try clear i1
                try clear i2
                try clear i3
                try clear n7
                try clear n8
                try clear n9
                try clear p7
                try clear p8
                try clear p9
                try clear u0
                try clear p2
                try clear p3
                try clear i8
                try clear h2
                try clear j7
                try clear p4
                try clear m9
                try clear p6
                try clear q3
                try clear i9
                try clear h3
                try clear j8
                try clear p5
                try clear n0
                obtain ⟨d1, rfl, HA, A2, b2, a4, a3, c8, j6, a5, a6, b0, HB⟩ := hrel
                cases gk with
                | zero => exact absurd HA.out (by simp [stanzaref07_Parse.l3])
                | succ k4 =>
                 have H := HA.out
                 clear HA
                 simp only [stanzaref07_Parse.l3] at H
                 by_cases u2 : d1 < (a1.length : Int)
                 ·rw [if_pos u2] at H
                  have F9 : decide (d1 < (a1.length : Int)) = true := decide_eq_true u2
                  clear u2
                  by_cases A3 : 0 ≤ d1
                  ·rw [if_pos A3] at H
                   have P9 : decide (0 ≤ d1) = true := decide_eq_true A3
                   clear A3
                   replace H := Option.bind_eq_some_iff.mp H
                   obtain ⟨v0, E6, H⟩ := H
                   replace H : (if v0 = true then (some (([] : List (S39)), ([] : List (S39)), 23, ((rd_T66 a8 b5).f1))) else (stanzaref07_Parse.l3 k4 a8 g0 ((rd_T66 a8 b5).f1) (wrap64 (d1 + 1)) a2 a1 b3 b6)) = some (r1, r2, r3, r4) := H
                   have u3 := Aside0.mk E6
                   clear E6
                   by_cases A4 : v0 = true
                   ·subst A4
                    have H1 : (some (([] : List (S39)), ([] : List (S39)), 23, ((rd_T66 a8 b5).f1))) = some (r1, r2, r3, r4) := by rw [if_pos rfl] at H; exact H
                    clear H
                    have H := H1
                    clear H1
                    simp only [Option.some.injEq, Prod.mk.injEq] at H
                    obtain ⟨rfl, rfl, rfl, rfl⟩ := H
                    have Q0 := f5.out
                    have Q1 := e0.out
                    have Q2 := e6.out
                    have Q3 := f9.out
                    have K1 : wr.cell? ⟨b1, 0, none⟩ = some (.slice d5 a2.length d6) := (blk_cell a6.out 0).trans rfl
                    have K2 : wr.cell? ⟨b1, 1, none⟩ = some (.slice d7 a1.length d8) := (blk_cell a6.out 1).trans rfl
                    have K3 := blk_frozen a6.out 0
                    have K4 := blk_frozen a6.out 1
                    have m6 : 0 ≤ (d1 : Int) := of_decide_eq_true (by assumption)
                    have m7 : d1 < (a1.length : Int) := of_decide_eq_true (by assumption)
                    obtain ⟨G0, E7, E8, E9, F0, z0, q1, q2, m2, m3, m4, m5⟩ := at_T39 (Kd.S_reads' a3.out).2.2 d1 m6 m7
                    cases z0
                    obtain ⟨G1, s4, s5, j0⟩ := Kd.S_get a3.out z39 d1 m6 (by first | exact m7 | exact of_decide_eq_true (by assumption) | (have e_ := (Kd.S_reads' a3.out).1; omega))
                    obtain ⟨ve387_0, ve387_1, rfl, h7, h8⟩ := k39_openM s5
                    have f6 := j0 0 _ rfl
                    rw [Nat.add_zero] at f6
                    replace f6 := Option.some.inj (f6.symm.trans q1)
                    rw [f6] at h7
                    have C9 := Aside0.mk (show Kd.R (Kd.int .i32) 21 _ _ _ _ ((rd_T39 a1 d1).f0) from h7)
                    clear f6 h7
                    have f7 := j0 1 _ rfl
                    rw [add_field _ _ 1 (by omega)] at f7
                    replace f7 := Option.some.inj (f7.symm.trans q2)
                    rw [f7] at h8
                    have D0 := Aside0.mk (show Kd.R (Kd.int .u8) 5 _ _ _ _ ((rd_T39 a1 d1).f1) from h8)
                    clear f7 h8
                    clear j0 s4
                    have f3 := Aside0.mk m3
                    have h9 := Aside0.mk m2
                    clear m3 m2
                    have D1 := Aside0.mk m5
                    have D2 := Aside0.mk m4
                    clear m5 m4
                    replace m6 := eq_true m6
                    replace m7 := eq_true m7
                    have Q4 := f8.out
                    have Q5 := d9.out
                    have K5 : wr.cell? ⟨a7, 0, none⟩ = some (.slice g7 b3.length g8) := (blk_cell b0.out 0).trans rfl
                    have K6 : wr.cell? ⟨a7, 1, none⟩ = some (.slice g9 b6.length h0) := (blk_cell b0.out 1).trans rfl
                    have K7 := blk_frozen b0.out 0
                    have K8 := blk_frozen b0.out 1
                    go_wp2_with (first | (go_at_call 38; (with_reducible refine (stanzaref07_Same.calls k4 _ _ ((rd_T39 a1 d1).f0) _ _ b3 true _ ?side1 ?side2 ?side3 ?side4 u3.out).mono ?_); (case side1 => repeat (first | exact (by repeat (first | (with_reducible exact f3.out) | (with_reducible refine Kd.C_alloc ?_ _) | (with_reducible refine Kd.C_drewN ?_ _) | (with_reducible refine Kd.C_drew ?_) | exact f3.out)) | (with_reducible refine Kd.C_alloc ?_ _) | (with_reducible refine Kd.C_drewN ?_ _) | (with_reducible refine Kd.C_drew ?_))); (case side2 => exact h9.out); (case side3 => repeat (first | exact (Kd.R_reads' c8.out).2.2 | (with_reducible refine Kd.C_alloc ?_ _) | (with_reducible refine Kd.C_drewN ?_ _) | (with_reducible refine Kd.C_drew ?_))); (case side4 => exact (Kd.R_reads' c8.out).2.1); rintro e w' ⟨rfl, ⟨nd, rfl⟩⟩; (try first | exact ⟨rfl, _, World.drewN_drewN _ _ _⟩ | exact ⟨rfl, _, Eq.trans (World.drewN_drewN _ _ _) (congrArg (World.drewN _) (Nat.add_assoc _ _ _))⟩); have u4 : wr.cell? ⟨a9, 0, none⟩ = some (.slice none 0 0) := (blk_cell a5.out 0).trans rfl; have u5 : wr.cell? ⟨a9, 1, none⟩ = some (.slice none 0 0) := (blk_cell a5.out 1).trans rfl; have u6 := blk_frozen a5.out 0; have u7 := blk_frozen a5.out 1))
                    repeat (go_quiet (first | (go_at_call 38; (with_reducible refine (stanzaref07_Same.calls k4 _ _ ((rd_T39 a1 d1).f0) _ _ b3 true _ ?side1 ?side2 ?side3 ?side4 u3.out).mono ?_); (case side1 => repeat (first | exact (by repeat (first | (with_reducible exact f3.out) | (with_reducible refine Kd.C_alloc ?_ _) | (with_reducible refine Kd.C_drewN ?_ _) | (with_reducible refine Kd.C_drew ?_) | exact f3.out)) | (with_reducible refine Kd.C_alloc ?_ _) | (with_reducible refine Kd.C_drewN ?_ _) | (with_reducible refine Kd.C_drew ?_))); (case side2 => exact h9.out); (case side3 => repeat (first | exact (Kd.R_reads' c8.out).2.2 | (with_reducible refine Kd.C_alloc ?_ _) | (with_reducible refine Kd.C_drewN ?_ _) | (with_reducible refine Kd.C_drew ?_))); (case side4 => exact (Kd.R_reads' c8.out).2.1); rintro e w' ⟨rfl, ⟨nd, rfl⟩⟩; (try first | exact ⟨rfl, _, World.drewN_drewN _ _ _⟩ | exact ⟨rfl, _, Eq.trans (World.drewN_drewN _ _ _) (congrArg (World.drewN _) (Nat.add_assoc _ _ _))⟩); have u4 : wr.cell? ⟨a9, 0, none⟩ = some (.slice none 0 0) := (blk_cell a5.out 0).trans rfl; have u5 : wr.cell? ⟨a9, 1, none⟩ = some (.slice none 0 0) := (blk_cell a5.out 1).trans rfl; have u6 := blk_frozen a5.out 0; have u7 := blk_frozen a5.out 1)); try go_wp2_with (first | (go_at_call 38; (with_reducible refine (stanzaref07_Same.calls k4 _ _ ((rd_T39 a1 d1).f0) _ _ b3 true _ ?side1 ?side2 ?side3 ?side4 u3.out).mono ?_); (case side1 => repeat (first | exact (by repeat (first | (with_reducible exact f3.out) | (with_reducible refine Kd.C_alloc ?_ _) | (with_reducible refine Kd.C_drewN ?_ _) | (with_reducible refine Kd.C_drew ?_) | exact f3.out)) | (with_reducible refine Kd.C_alloc ?_ _) | (with_reducible refine Kd.C_drewN ?_ _) | (with_reducible refine Kd.C_drew ?_))); (case side2 => exact h9.out); (case side3 => repeat (first | exact (Kd.R_reads' c8.out).2.2 | (with_reducible refine Kd.C_alloc ?_ _) | (with_reducible refine Kd.C_drewN ?_ _) | (with_reducible refine Kd.C_drew ?_))); (case side4 => exact (Kd.R_reads' c8.out).2.1); rintro e w' ⟨rfl, ⟨nd, rfl⟩⟩; (try first | exact ⟨rfl, _, World.drewN_drewN _ _ _⟩ | exact ⟨rfl, _, Eq.trans (World.drewN_drewN _ _ _) (congrArg (World.drewN _) (Nat.add_assoc _ _ _))⟩); have u4 : wr.cell? ⟨a9, 0, none⟩ = some (.slice none 0 0) := (blk_cell a5.out 0).trans rfl; have u5 : wr.cell? ⟨a9, 1, none⟩ = some (.slice none 0 0) := (blk_cell a5.out 1).trans rfl; have u6 := blk_frozen a5.out 0; have u7 := blk_frozen a5.out 1)))
                    refine bodyPost_ret (results_ctt rfl _ _ a9 50 #[.slice none 0 0, .slice none 0 0] (0, 0) _ rfl (by refine blk_put (cs := #[.slice none 0 0, .slice none 0 0]) ?_ 1 _ rfl; refine blk_put (cs := #[.slice none 0 0, .slice none 0 0]) ?_ 0 _ rfl; exact a5.out) Try.underlying50 rfl (by kernel_rfl)) rfl ?_
                    exact ⟨_, _, rfl, by first | exact Kd.S_nil _ _ _ _ _ | exact Kd.N_nil _ _ _ _ _ | exact Kd.V_nil _ _ _ _ _ | exact Kd.Q_nil _ _ _ _ _ | exact Kd.R_nil _ _ _ _ _, by first | exact Kd.S_nil _ _ _ _ _ | exact Kd.N_nil _ _ _ _ _ | exact Kd.V_nil _ _ _ _ _ | exact Kd.Q_nil _ _ _ _ _ | exact Kd.R_nil _ _ _ _ _, by repeat (first | (with_reducible first | exact HB.out | apply below_alloc | apply pw_below_drewN | apply below_drew1 | refine below_set ?_ b7.out | refine below_set ?_ e3.out | refine below_set ?_ h6.out) | exact HB.out)⟩
                   ·replace A4 := Bool.eq_false_iff.mpr A4
                    subst A4
                    have H1 : (stanzaref07_Parse.l3 k4 a8 g0 ((rd_T66 a8 b5).f1) (wrap64 (d1 + 1)) a2 a1 b3 b6) = some (r1, r2, r3, r4) := by rw [if_neg (show ¬ (false = true) by decide)] at H; exact H
                    clear H
                    have H := H1
                    clear H1
                    have H' := Aside0.mk H
                    clear H
                    have Q6 := f5.out
                    have Q7 := e0.out
                    have Q8 := e6.out
                    have Q9 := f9.out
                    have K9 : wr.cell? ⟨b1, 0, none⟩ = some (.slice d5 a2.length d6) := (blk_cell a6.out 0).trans rfl
                    have L0 : wr.cell? ⟨b1, 1, none⟩ = some (.slice d7 a1.length d8) := (blk_cell a6.out 1).trans rfl
                    have L1 := blk_frozen a6.out 0
                    have L2 := blk_frozen a6.out 1
                    have m6 : 0 ≤ (d1 : Int) := of_decide_eq_true (by assumption)
                    have m7 : d1 < (a1.length : Int) := of_decide_eq_true (by assumption)
                    obtain ⟨G0, E7, E8, E9, F0, z0, q1, q2, m2, m3, m4, m5⟩ := at_T39 (Kd.S_reads' a3.out).2.2 d1 m6 m7
                    cases z0
                    obtain ⟨G1, s4, s5, j0⟩ := Kd.S_get a3.out z39 d1 m6 (by first | exact m7 | exact of_decide_eq_true (by assumption) | (have e_ := (Kd.S_reads' a3.out).1; omega))
                    obtain ⟨ve387_0, ve387_1, rfl, h7, h8⟩ := k39_openM s5
                    have f6 := j0 0 _ rfl
                    rw [Nat.add_zero] at f6
                    replace f6 := Option.some.inj (f6.symm.trans q1)
                    rw [f6] at h7
                    have C9 := Aside0.mk (show Kd.R (Kd.int .i32) 21 _ _ _ _ ((rd_T39 a1 d1).f0) from h7)
                    clear f6 h7
                    have f7 := j0 1 _ rfl
                    rw [add_field _ _ 1 (by omega)] at f7
                    replace f7 := Option.some.inj (f7.symm.trans q2)
                    rw [f7] at h8
                    have D0 := Aside0.mk (show Kd.R (Kd.int .u8) 5 _ _ _ _ ((rd_T39 a1 d1).f1) from h8)
                    clear f7 h8
                    clear j0 s4
                    have f3 := Aside0.mk m3
                    have h9 := Aside0.mk m2
                    clear m3 m2
                    have D1 := Aside0.mk m5
                    have D2 := Aside0.mk m4
                    clear m5 m4
                    replace m6 := eq_true m6
                    replace m7 := eq_true m7
                    have R0 := f8.out
                    have R1 := d9.out
                    have L3 : wr.cell? ⟨a7, 0, none⟩ = some (.slice g7 b3.length g8) := (blk_cell b0.out 0).trans rfl
                    have L4 : wr.cell? ⟨a7, 1, none⟩ = some (.slice g9 b6.length h0) := (blk_cell b0.out 1).trans rfl
                    have L5 := blk_frozen b0.out 0
                    have L6 := blk_frozen b0.out 1
                    go_wp2_with (first | (go_at_call 38; (with_reducible refine (stanzaref07_Same.calls k4 _ _ ((rd_T39 a1 d1).f0) _ _ b3 false _ ?side1 ?side2 ?side3 ?side4 u3.out).mono ?_); (case side1 => repeat (first | exact (by repeat (first | (with_reducible exact f3.out) | (with_reducible refine Kd.C_alloc ?_ _) | (with_reducible refine Kd.C_drewN ?_ _) | (with_reducible refine Kd.C_drew ?_) | exact f3.out)) | (with_reducible refine Kd.C_alloc ?_ _) | (with_reducible refine Kd.C_drewN ?_ _) | (with_reducible refine Kd.C_drew ?_))); (case side2 => exact h9.out); (case side3 => repeat (first | exact (Kd.R_reads' c8.out).2.2 | (with_reducible refine Kd.C_alloc ?_ _) | (with_reducible refine Kd.C_drewN ?_ _) | (with_reducible refine Kd.C_drew ?_))); (case side4 => exact (Kd.R_reads' c8.out).2.1); rintro e w' ⟨rfl, ⟨nd, rfl⟩⟩; (try first | exact ⟨rfl, _, World.drewN_drewN _ _ _⟩ | exact ⟨rfl, _, Eq.trans (World.drewN_drewN _ _ _) (congrArg (World.drewN _) (Nat.add_assoc _ _ _))⟩)))
                    repeat (go_quiet (first | (go_at_call 38; (with_reducible refine (stanzaref07_Same.calls k4 _ _ ((rd_T39 a1 d1).f0) _ _ b3 false _ ?side1 ?side2 ?side3 ?side4 u3.out).mono ?_); (case side1 => repeat (first | exact (by repeat (first | (with_reducible exact f3.out) | (with_reducible refine Kd.C_alloc ?_ _) | (with_reducible refine Kd.C_drewN ?_ _) | (with_reducible refine Kd.C_drew ?_) | exact f3.out)) | (with_reducible refine Kd.C_alloc ?_ _) | (with_reducible refine Kd.C_drewN ?_ _) | (with_reducible refine Kd.C_drew ?_))); (case side2 => exact h9.out); (case side3 => repeat (first | exact (Kd.R_reads' c8.out).2.2 | (with_reducible refine Kd.C_alloc ?_ _) | (with_reducible refine Kd.C_drewN ?_ _) | (with_reducible refine Kd.C_drew ?_))); (case side4 => exact (Kd.R_reads' c8.out).2.1); rintro e w' ⟨rfl, ⟨nd, rfl⟩⟩; (try first | exact ⟨rfl, _, World.drewN_drewN _ _ _⟩ | exact ⟨rfl, _, Eq.trans (World.drewN_drewN _ _ _) (congrArg (World.drewN _) (Nat.add_assoc _ _ _))⟩))); try go_wp2_with (first | (go_at_call 38; (with_reducible refine (stanzaref07_Same.calls k4 _ _ ((rd_T39 a1 d1).f0) _ _ b3 false _ ?side1 ?side2 ?side3 ?side4 u3.out).mono ?_); (case side1 => repeat (first | exact (by repeat (first | (with_reducible exact f3.out) | (with_reducible refine Kd.C_alloc ?_ _) | (with_reducible refine Kd.C_drewN ?_ _) | (with_reducible refine Kd.C_drew ?_) | exact f3.out)) | (with_reducible refine Kd.C_alloc ?_ _) | (with_reducible refine Kd.C_drewN ?_ _) | (with_reducible refine Kd.C_drew ?_))); (case side2 => exact h9.out); (case side3 => repeat (first | exact (Kd.R_reads' c8.out).2.2 | (with_reducible refine Kd.C_alloc ?_ _) | (with_reducible refine Kd.C_drewN ?_ _) | (with_reducible refine Kd.C_drew ?_))); (case side4 => exact (Kd.R_reads' c8.out).2.1); rintro e w' ⟨rfl, ⟨nd, rfl⟩⟩; (try first | exact ⟨rfl, _, World.drewN_drewN _ _ _⟩ | exact ⟨rfl, _, Eq.trans (World.drewN_drewN _ _ _) (congrArg (World.drewN _) (Nat.add_assoc _ _ _))⟩))))
                    go_roundg k4
                    case measure => have := i0.out; have := j9.out; have := o1.out; have := A2.out; omega
                    case rel => exact ⟨(wrap64 (d1 + 1)), (rfl), H', ⟨by have := i0.out; have := j9.out; have := o1.out; have := A2.out; omega⟩, ⟨by exact b2.out⟩, ⟨by exact a4.out⟩, ⟨by exact a3.out⟩, ⟨by exact c8.out⟩, ⟨by exact j6.out⟩, ⟨by exact a5.out⟩, ⟨by exact a6.out⟩, ⟨by exact b0.out⟩, ⟨by repeat (first | (with_reducible first | exact HB.out | apply below_alloc | apply pw_below_drewN | apply below_drew1 | refine below_set ?_ b7.out | refine below_set ?_ e3.out | refine below_set ?_ h6.out) | exact HB.out)⟩⟩
                  ·rw [if_neg A3] at H
                   exact absurd H (by simp)
                 ·rw [if_neg u2] at H
                  have F9 : decide (d1 < (a1.length : Int)) = false := decide_eq_false u2
                  clear u2
                  by_cases A6 : a1.length < 2932031007402
                  ·rw [if_pos A6] at H
                   have G2 := Aside0.mk A6
                   clear A6
                   obtain ⟨q4, o9⟩ : ∃ y_ : List (S39), y_ = (a1 ++ [(⟨b3, b6⟩ : S39)]) := ⟨_, rfl⟩
                   replace H : (stanzaref07_Parse.l0 k4 a8 g0 a2 q4) = some (r1, r2, r3, r4) := by first | (rw [o9]; with_reducible exact H) | (have m8 := (Option.bind_some _ _).symm.trans H; rw [o9]; with_reducible exact m8) | (have m8 := (Option.bind_some _ _).symm.trans H; with_reducible exact m8) | with_reducible exact H | (rw [o9]; exact H) | exact H
                   have G3 := Aside0.mk o9
                   clear o9
                   have H' := Aside0.mk H
                   clear H
                   have R2 := f5.out
                   have R3 := e0.out
                   have R4 := e6.out
                   have R5 := f9.out
                   have L7 : wr.cell? ⟨b1, 0, none⟩ = some (.slice d5 a2.length d6) := (blk_cell a6.out 0).trans rfl
                   have L8 : wr.cell? ⟨b1, 1, none⟩ = some (.slice d7 a1.length d8) := (blk_cell a6.out 1).trans rfl
                   have L9 := blk_frozen a6.out 0
                   have M0 := blk_frozen a6.out 1
                   have R6 := f8.out
                   have R7 := d9.out
                   have M1 : wr.cell? ⟨a7, 0, none⟩ = some (.slice g7 b3.length g8) := (blk_cell b0.out 0).trans rfl
                   have M2 : wr.cell? ⟨a7, 1, none⟩ = some (.slice g9 b6.length h0) := (blk_cell b0.out 1).trans rfl
                   have M3 := blk_frozen b0.out 0
                   have M4 := blk_frozen b0.out 1
                   go_wp2_with (first | ((with_reducible refine gate_builtin (b := .append) (xs := #[.tmp 124, .tmp 126]) rfl ?_); at_builtin; refine Kd.S_append k39 (w0 := w) w.heap.size rfl (.tmp 124) (.tmp 126) 22 39 (.agg #[(.slice none 0 0), (.slice none 0 0)]) 48 rfl Try.underlying22 info39 rfl (by decide) (by omega) (.slice d7 a1.length d8) a1 (⟨b3, b6⟩ : S39) [.slice g7 b3.length g8, .slice g9 b6.length h0] (fun k_ => some k_ ≠ (.slice d5 a2.length d6 : Value).ownBlock ∧ k_ ≠ a7) (fun k_ => some k_ = (.slice g7 b3.length g8 : Value).ownBlock ∨ some k_ = (.slice g9 b6.length h0 : Value).ownBlock) rfl rfl ?aP (fun k_ hk_ => hk_.elim (fun h_ => ((Kd.R_mono (ok' := fun k_ => ((fun k_ => some k_ ≠ (.slice d5 a2.length d6 : Value).ownBlock ∧ k_ ≠ a7)) k_ ∧ some k_ ≠ (.slice d7 a1.length d8 : Value).ownBlock) (Kd.R_types (Kd.R_apart' (Kd.R_apart' (c8.out) (Kd.S_typed a4.out) (by decide)) (Kd.S_typed a3.out) (by decide)) b0.out (by decide)) (fun k_ hk => ⟨⟨hk.1.1.2, hk.2⟩, hk.1.2⟩))).1 k_ h_.symm) (fun h_ => ((Kd.R_mono (ok' := fun k_ => ((fun k_ => some k_ ≠ (.slice d5 a2.length d6 : Value).ownBlock ∧ k_ ≠ a7)) k_ ∧ some k_ ≠ (.slice d7 a1.length d8 : Value).ownBlock) (Kd.R_types (Kd.R_apart' (Kd.R_apart' (j6.out) (Kd.S_typed a4.out) (by decide)) (Kd.S_typed a3.out) (by decide)) b0.out (by decide)) (fun k_ hk => ⟨⟨hk.1.1.2, hk.2⟩, hk.1.2⟩))).1 k_ h_.symm)) ?aF ?aO ?aB ?aS ?aL ?_; (case aP => exact k39_mkM _ _ _ (⟨b3, b6⟩ : S39) (Kd.R_mono (Kd.R_tight rfl (Kd.R_mono (ok' := fun k_ => ((fun k_ => some k_ ≠ (.slice d5 a2.length d6 : Value).ownBlock ∧ k_ ≠ a7)) k_ ∧ some k_ ≠ (.slice d7 a1.length d8 : Value).ownBlock) (Kd.R_types (Kd.R_apart' (Kd.R_apart' (c8.out) (Kd.S_typed a4.out) (by decide)) (Kd.S_typed a3.out) (by decide)) b0.out (by decide)) (fun k_ hk => ⟨⟨hk.1.1.2, hk.2⟩, hk.1.2⟩))) (fun _ h_ => Or.inl h_)) (Kd.R_mono (Kd.R_tight rfl (Kd.R_mono (ok' := fun k_ => ((fun k_ => some k_ ≠ (.slice d5 a2.length d6 : Value).ownBlock ∧ k_ ≠ a7)) k_ ∧ some k_ ≠ (.slice d7 a1.length d8 : Value).ownBlock) (Kd.R_types (Kd.R_apart' (Kd.R_apart' (j6.out) (Kd.S_typed a4.out) (by decide)) (Kd.S_typed a3.out) (by decide)) b0.out (by decide)) (fun k_ hk => ⟨⟨hk.1.1.2, hk.2⟩, hk.1.2⟩))) (fun _ h_ => Or.inr (h_)))); (case aB => exact (HB.out)); (case aF => exact (fun k_ hk => ⟨Kd.fresh' (Kd.S_lt (by exact a4.out)) k_ hk, Kd.freshB (g := a7) (o := .cells #[.slice g7 b3.length g8, .slice g9 b6.length h0] 39 (0, 0)) (by exact b0.out) k_ hk⟩)); (case aO => exact (by exact Kd.S_mono a3.out (fun k_ hk => ⟨⟨hk.1, hk.2.2.2⟩, fun e_ => e_.elim (fun h_ => hk.2.1 h_) (fun h_ => hk.2.2.1 h_)⟩))); (case aS => exact (below_size (HB.out))); (case aL => have := G2.out; omega); intro U5 H0 ho hb hg hat; rw [← G3.out] at ho; have b9 := Aside0.mk (Kd.R_over' (by exact b2.out) (Kd.S_typed (by exact a3.out)) (by decide) hg); have c0 := Aside0.mk (Kd.S_after (ok := (fun k_ => some k_ ≠ (.slice g7 b3.length g8 : Value).ownBlock ∧ some k_ ≠ (.slice g9 b6.length h0 : Value).ownBlock ∧ k_ ≠ a7)) (by exact Kd.S_mono a4.out (fun _ hk => ⟨⟨hk.2.1, ⟨hk.2.2.1, hk.2.2.2⟩⟩, hk.1⟩)) hg hat); have c7 := Aside0.mk (blk_grown a5.out hg (Kd.S_ne a3.out a5.out (by decide))); have d2 := Aside0.mk (blk_grown a6.out hg (Kd.S_ne a3.out a6.out (by decide))); have e8 := Aside0.mk (blk_grown b0.out hg (Kd.S_away a3.out (fun _ hk => hk.2.2.2))); have e9 := Aside0.mk (hb); have f2 := Aside0.mk (ho); clear b2; clear a4; clear a5; clear a6; clear b0; clear HB; clear a3; clear c8; clear j6; have b2 := b9; have a4 := c0; have a5 := c7; have a6 := d2; have b0 := e8; have HB := e9; have A7 := f2; clear b9 c0 c7 d2 e8 e9 f2; clear ho hb hg hat; obtain ⟨w2, w4, I9⟩ := Kd.S_slice A7.out; subst I9; have M5 : H0.cell? ⟨b1, 0, none⟩ = some (.slice d5 a2.length d6) := (blk_cell a6.out 0).trans rfl; have M6 : H0.cell? ⟨b1, 1, none⟩ = some (.slice d7 a1.length d8) := (blk_cell a6.out 1).trans rfl; have M7 := blk_frozen a6.out 0; have M8 := blk_frozen a6.out 1))
                   go_roundg k4
                   case measure => have := i0.out; have := j9.out; have := o1.out; have := A2.out; omega
                   case rel => exact ⟨(g0), (a2), (q4), (.slice d5 a2.length d6), (.slice w2 q4.length w4), (rfl), H', ⟨by have := i0.out; have := j9.out; have := o1.out; have := A2.out; omega⟩, ⟨by exact Kd.R_mono (Kd.R_far (p := ⟨b1, 1, none⟩) (Kd.R_types b2.out a6.out (by decide)) (fun _ hk => hk.2) (.slice w2 q4.length w4)) (fun _ hk => trivial)⟩, ⟨by exact Kd.S_mono (Kd.S_far (p := ⟨b1, 1, none⟩) (Kd.S_types a4.out a6.out (by decide)) (fun _ hk => hk.2) (.slice w2 q4.length w4)) (fun _ hk => hk.1.2)⟩, ⟨by exact Kd.S_mono (Kd.S_far (p := ⟨b1, 1, none⟩) (Kd.S_types A7.out a6.out (by decide)) (fun _ hk => hk.2) (.slice w2 q4.length w4)) (fun _ hk => hk.1.1)⟩, ⟨by refine blk_far ?_ e0.out _; exact a5.out⟩, ⟨by refine blk_put (cs := #[.slice d5 a2.length d6, .slice d7 a1.length d8]) ?_ 1 _ rfl; exact a6.out⟩, ⟨by repeat (first | (with_reducible first | exact HB.out | apply below_alloc | apply pw_below_drewN | apply below_drew1 | refine below_set ?_ b7.out | refine below_set ?_ e3.out | refine below_set ?_ h6.out) | exact HB.out)⟩⟩
                  ·rw [if_neg A6] at H
                   exact absurd H (by simp)
             ·replace x2 := Bool.eq_false_iff.mpr x2
              subst x2
              have H1 : (some (([] : List (S39)), ([] : List (S39)), 30, ((rd_T66 a8 b5).f1))) = some (r1, r2, r3, r4) := by rw [if_neg (show ¬ (false = true) by decide)] at H; exact H
              clear H
              have H := H1
              clear H1
              simp only [Option.some.injEq, Prod.mk.injEq] at H
              obtain ⟨rfl, rfl, rfl, rfl⟩ := H
              obtain ⟨U6, U7, J0⟩ := Kd.R_slice b4.out
              subst J0
              go_wp2_with (first | (go_at_call 57; (with_reducible refine (stanzaref07_pattern.calls k3 _ _ d0 (decide (g1 > 0)) b3 b6 false _ ?side1 ?side2 E3.out).mono ?_); (case side1 => repeat (first | exact (Kd.R_reads' b4.out).2.2 | (with_reducible refine Kd.C_alloc ?_ _) | (with_reducible refine Kd.C_drewN ?_ _) | (with_reducible refine Kd.C_drew ?_))); (case side2 => exact (Kd.R_reads' b4.out).2.1); rintro e W6 ⟨E4, E5, rfl, h4, j3, hb⟩; have b9 := Aside0.mk (Kd.R_below (by exact b2.out) hb); have c0 := Aside0.mk (Kd.R_elder' (by exact b4.out) (Kd.R_base h4) hb); have c7 := Aside0.mk (Kd.S_mono (Kd.S_told (Kd.S_told (Kd.S_old (by exact a4.out) hb) (Kd.R_base h4)) (Kd.R_base j3)) (fun _ h_ => h_.1)); have d2 := Aside0.mk (Kd.S_mono (Kd.S_told (Kd.S_told (Kd.S_old (by exact a3.out) hb) (Kd.R_base h4)) (Kd.R_base j3)) (fun _ h_ => h_.1)); have e8 := Aside0.mk (Kd.R_lower (Kd.R_new' h4 (Kd.R_lt (by exact b4.out))) (below_size (HB.out))); have e9 := Aside0.mk (Kd.R_lower j3 (below_size (HB.out))); have f2 := Aside0.mk (blk_below a5.out hb); have f4 := Aside0.mk (blk_below a6.out hb); have g4 := Aside0.mk (below_step (HB.out) hb); clear b2; clear b4; clear a4; clear a3; clear a5; clear a6; clear HB; have b2 := b9; have b4 := c0; have a4 := c7; have a3 := d2; have e1 := e8; have e2 := e9; have a5 := f2; have a6 := f4; have HB := g4; clear b9 c0 c7 d2 e8 e9 f2 f4 g4; (try clear hb); (try clear D5); (try clear hk); (try clear hi); (try clear h4); (try clear j3)) | ((with_reducible refine gate_dst (N := 12) rfl ?_); refine box_event ?hg (N := 12) ?hd (cs := #[.slice none 0 0, .slice none 0 0]) (t := 39) ?hr ?_; (case hd => rfl); (case hg => rfl); (case hr => first | (go_simp; done) | (go_simp; rfl)); intro a7 hg A8 hbox hb; have b9 := Aside0.mk (Kd.R_below (by exact b2.out) hb); have c0 := Aside0.mk (Kd.R_below (by exact b4.out) hb); have c7 := Aside0.mk (Kd.S_below (Kd.S_elderB (by exact a4.out) a7 (Nat.le_of_eq hg.symm)) hb); have d2 := Aside0.mk (Kd.S_below (Kd.S_elderB (by exact a3.out) a7 (Nat.le_of_eq hg.symm)) hb); have e8 := Aside0.mk (Kd.R_below (by exact e1.out) hb); have e9 := Aside0.mk (Kd.R_below (by exact e2.out) hb); have f2 := Aside0.mk (blk_below a5.out hb); have f4 := Aside0.mk (blk_below a6.out hb); have g4 := Aside0.mk (below_step (HB.out) hb); have j4 := Aside0.mk (hbox); have n1 := Aside0.mk ((by rw [hg]; exact (below_size (HB.out)) : w.heap.size ≤ a7)); have n2 := Aside0.mk ((by rw [hg]; exact (below_size (HB.out)) : w.heap.size ≤ a7)); have n3 := Aside0.mk ((by rw [hg]; exact Nat.ne_of_lt (blk_lt a5.out) : a9 ≠ a7)); have n4 := Aside0.mk ((by rw [hg]; exact Nat.ne_of_gt (blk_lt a5.out) : a7 ≠ a9)); have n5 := Aside0.mk ((by rw [hg]; exact Nat.ne_of_lt (blk_lt a6.out) : b1 ≠ a7)); have n6 := Aside0.mk ((by rw [hg]; exact Nat.ne_of_gt (blk_lt a6.out) : a7 ≠ b1)); clear b2; clear b4; clear a4; clear a3; clear e1; clear e2; clear a5; clear a6; clear HB; have b2 := b9; have b4 := c0; have a4 := c7; have a3 := d2; have e1 := e8; have e2 := e9; have a5 := f2; have a6 := f4; have HB := g4; have b0 := j4; have A0 := n1; have h6 := n2; have d9 := n3; have f8 := n4; have e6 := n5; have f9 := n6; clear b9 c0 c7 d2 e8 e9 f2 f4 g4 j4 n1 n2 n3 n4 n5 n6; clear hb hbox hg; obtain ⟨U8, U9, J1⟩ := Kd.R_slice e1.out; subst J1; have R8 := f8.out; have R9 := d9.out; have S0 := f9.out; have S1 := e6.out; have M9 : A8.cell? ⟨a7, 0, none⟩ = some (.slice none 0 0) := (blk_cell b0.out 0).trans rfl; have N0 : A8.cell? ⟨a7, 1, none⟩ = some (.slice none 0 0) := (blk_cell b0.out 1).trans rfl; have N1 := blk_frozen b0.out 0; have N2 := blk_frozen b0.out 1; obtain ⟨V0, V1, J2⟩ := Kd.R_slice e2.out; subst J2; have S2 := e0.out; have S3 := f5.out; have N3 : A8.cell? ⟨a9, 0, none⟩ = some (.slice none 0 0) := (blk_cell a5.out 0).trans rfl; have N4 : A8.cell? ⟨a9, 1, none⟩ = some (.slice none 0 0) := (blk_cell a5.out 1).trans rfl; have N5 := blk_frozen a5.out 0; have N6 := blk_frozen a5.out 1))
              refine bodyPost_ret (results_ctt rfl _ _ a9 50 #[.slice none 0 0, .slice none 0 0] (0, 0) _ rfl (by refine blk_put (cs := #[.slice none 0 0, .slice none 0 0]) ?_ 1 _ rfl; refine blk_put (cs := #[.slice none 0 0, .slice none 0 0]) ?_ 0 _ rfl; refine blk_far ?_ d9.out _; refine blk_far ?_ d9.out _; exact a5.out) Try.underlying50 rfl (by kernel_rfl)) rfl ?_
              exact ⟨_, _, rfl, by first | exact Kd.S_nil _ _ _ _ _ | exact Kd.N_nil _ _ _ _ _ | exact Kd.V_nil _ _ _ _ _ | exact Kd.Q_nil _ _ _ _ _ | exact Kd.R_nil _ _ _ _ _, by first | exact Kd.S_nil _ _ _ _ _ | exact Kd.N_nil _ _ _ _ _ | exact Kd.V_nil _ _ _ _ _ | exact Kd.Q_nil _ _ _ _ _ | exact Kd.R_nil _ _ _ _ _, by repeat (first | (with_reducible first | exact HB.out | apply below_alloc | apply pw_below_drewN | apply below_drew1 | refine below_set ?_ b7.out | refine below_set ?_ e3.out | refine below_set ?_ h6.out) | exact HB.out)⟩
     ·rw [if_neg q5] at H
      exact absurd H (by simp)
    ·rw [if_neg o0] at H
     have o4 : decide (b5 < (a8.length : Int)) = false := decide_eq_false o0
     clear o0
     simp only [Option.some.injEq, Prod.mk.injEq] at H
     obtain ⟨rfl, rfl, rfl, rfl⟩ := H
     obtain ⟨S4, S5, G4⟩ := Kd.R_slice b2.out
     subst G4
     have O2 := f5.out
     have O3 := e0.out
     have J3 : wr.cell? ⟨b1, 0, none⟩ = some (e4) := (blk_cell a6.out 0).trans rfl
     have J4 : wr.cell? ⟨b1, 1, none⟩ = some (e5) := (blk_cell a6.out 1).trans rfl
     have J5 := blk_frozen a6.out 0
     have J6 := blk_frozen a6.out 1
     obtain ⟨r6, r7, G5⟩ := Kd.S_slice a4.out
     subst G5
     have J7 : wr.cell? ⟨a9, 0, none⟩ = some (.slice none 0 0) := (blk_cell a5.out 0).trans rfl
     have J8 : wr.cell? ⟨a9, 1, none⟩ = some (.slice none 0 0) := (blk_cell a5.out 1).trans rfl
     have J9 := blk_frozen a5.out 0
     have K0 := blk_frozen a5.out 1
     obtain ⟨w5, w9, G6⟩ := Kd.S_slice a3.out
     subst G6
     go_wp2
     repeat (go_quiet (fail); try go_wp2)
     refine bodyPost_ret (results_ctt rfl _ _ a9 50 #[.slice r6 a2.length r7, .slice w5 a1.length w9] (0, 0) _ rfl (by refine blk_put (cs := #[.slice r6 a2.length r7, .slice none 0 0]) ?_ 1 _ rfl; refine blk_put (cs := #[.slice none 0 0, .slice none 0 0]) ?_ 0 _ rfl; exact a5.out) Try.underlying50 rfl (by kernel_rfl)) rfl ?_
     exact ⟨_, _, rfl, by exact Kd.S_mono (Kd.S_far (p := ⟨a9, 1, none⟩) (Kd.S_far (p := ⟨a9, 0, none⟩) (Kd.S_types a4.out a5.out (by decide)) (fun _ hk => hk.2) (.slice r6 a2.length r7)) (fun _ hk => hk.2) (.slice w5 a1.length w9)) (fun _ hk => hk.1), by exact Kd.S_mono (Kd.S_far (p := ⟨a9, 1, none⟩) (Kd.S_far (p := ⟨a9, 0, none⟩) (Kd.S_types a3.out a5.out (by decide)) (fun _ hk => hk.2) (.slice r6 a2.length r7)) (fun _ hk => hk.2) (.slice w5 a1.length w9)) (fun _ hk => hk.1), by repeat (first | (with_reducible first | exact HB.out | apply below_alloc | apply pw_below_drewN | apply below_drew1 | refine below_set ?_ b7.out | refine below_set ?_ e3.out) | exact HB.out)⟩
end Go.Proofs.Ytoefjhdcipgacaa.PA
end
section
namespace Go.Proofs.Ytoefjhdcipgacaa.Dec
open Go.RowKit Go.Proofs.YtoefjhdcipgacaaW.PrintWords Go.Proofs.YtoefjhdcipgacaaW.PrintLast Go.Proofs.YtoefjhdcipgacaaW.PrintMore
open Go.Proofs.Ytoefjhdcipgacaa.PA
def lenM (c : Int) : Int := if c < 128 then 1 else if c < 194 ∨ 244 < c then 0 else if c < 224 then 2 else if c < 240 then 3 else 4
theorem len_eq (c : Int) (k : Nat) : stanzaref01_length.f (k + 2) c = some (lenM c) := by
 have h1 : ∀ b : Bool, stanzaref01_length.j1 (k + 1) c b = if b = true then some 3 else (if c ≥ 240 then (if c ≤ 244 then some 4 else some 0) else some 0) := fun _ => rfl
 have h0 : ∀ b : Bool, stanzaref01_length.j0 (k + 2) c b = if b = true then some 2 else (if c ≥ 224 then stanzaref01_length.j1 (k + 1) c (decide (c ≤ 239)) else stanzaref01_length.j1 (k + 1) c false) := fun _ => rfl
 unfold stanzaref01_length.f lenM
 by_cases c1 : c < 128
 ·rw [if_pos c1, if_pos c1]
 rw [if_neg c1, if_neg c1]
 by_cases c2 : c ≥ 194
 ·rw [if_pos c2, h0]
  by_cases c3 : c ≤ 223
  ·rw [decide_eq_true c3, if_pos rfl, if_neg (show ¬ (c < 194 ∨ 244 < c) by omega), if_pos (show c < 224 by omega)]
  ·rw [decide_eq_false c3, if_neg (by decide), if_pos (by omega), h1]
   by_cases c4 : c ≤ 239
   ·rw [decide_eq_true c4, if_pos rfl, if_neg (show ¬ (c < 194 ∨ 244 < c) by omega), if_neg (show ¬ c < 224 by omega), if_pos (show c < 240 by omega)]
   ·rw [decide_eq_false c4, if_neg (by decide), if_pos (by omega)]
    by_cases c5 : c ≤ 244
    ·rw [if_pos c5, if_neg (show ¬ (c < 194 ∨ 244 < c) by omega), if_neg (show ¬ c < 224 by omega), if_neg (show ¬ c < 240 by omega)]
    ·rw [if_neg c5, if_pos (show c < 194 ∨ 244 < c by omega)]
 ·rw [if_neg c2, h0, if_neg (by decide), if_neg (by omega), h1, if_neg (by decide), if_neg (by omega), if_pos (show c < 194 ∨ 244 < c by omega)]
def goOn (L : List Int) (i : Nat) : Prop := ∀ j : Nat, i ≤ j → j < L.length → 128 ≤ rd L (j : Int) ∧ rd L (j : Int) ≤ 191
def second (L : List Int) : Prop := 2 ≤ L.length → lo (rd L 0) ≤ rd L 1 ∧ rd L 1 ≤ hi (rd L 0)
open Classical in
theorem beg_run (L : List Int) (hL : L.length ≤ 8) (h1 : 1 ≤ L.length) (m : Nat) : ∀ (i k : Nat), L.length - i ≤ m → 1 ≤ i → i ≤ L.length → m + 1 ≤ k → (∀ j : Nat, 1 ≤ j → j < i → 128 ≤ rd L (j : Int) ∧ rd L (j : Int) ≤ 191) →
  stanzaref01_Begins.l0 k L (i : Int) = some (decide (goOn L i ∧ second L)) := by
 have fin : ∀ k, (∀ j : Nat, 1 ≤ j → j < L.length → 128 ≤ rd L (j : Int) ∧ rd L (j : Int) ≤ 191) → stanzaref01_Begins.l0 (k + 1) L (L.length : Int) = some (decide (goOn L L.length ∧ second L)) := by
  intro k hj
  have hg : goOn L L.length := fun j h1 h2 => by omega
  rw [stanzaref01_Begins.l0.eq_2, if_neg (by omega)]
  by_cases h2 : L.length = 1
  ·rw [if_pos (by omega), decide_eq_true ⟨hg, fun h => by omega⟩]
  ·rw [if_neg (by omega), if_pos (by omega)]
   have hb := hj 1 (by omega) (by omega)
   rw [show ((1 : Nat) : Int) = 1 from rfl] at hb
   have hs : second L ↔ lo (rd L 0) ≤ rd L 1 ∧ rd L 1 ≤ hi (rd L 0) := ⟨fun h => h (by omega), fun h _ => h⟩
   have e : decide (goOn L L.length ∧ second L) = decide (lo (rd L 0) ≤ rd L 1 ∧ rd L 1 ≤ hi (rd L 0)) := decide_eq_decide.2 ⟨fun h => hs.1 h.2, fun h => ⟨hg, hs.2 h⟩⟩
   rw [e]
   clear e hs
   generalize rd L 1 = b at hb ⊢
   generalize rd L 0 = c
   unfold lo hi
   by_cases c1 : c = 224
   ·subst c1; rw [if_pos rfl, if_pos (by omega)]; congr 1; exact decide_eq_decide.2 (by simp; omega)
   by_cases c2 : c = 237
   ·subst c2; rw [if_neg (by decide), if_pos rfl, if_pos (by omega)]; congr 1; exact decide_eq_decide.2 (by simp; omega)
   by_cases c3 : c = 240
   ·subst c3; rw [if_neg (by decide), if_neg (by decide), if_pos rfl, if_pos (by omega)]; congr 1; exact decide_eq_decide.2 (by simp; omega)
   by_cases c4 : c = 244
   ·subst c4; rw [if_neg (by decide), if_neg (by decide), if_neg (by decide), if_pos rfl, if_pos (by omega)]; congr 1; exact decide_eq_decide.2 (by simp; omega)
   ·rw [if_neg c1, if_neg c2, if_neg c3, if_neg c4]; congr 1; exact (decide_eq_true (by simp [c1, c2, c3, c4]; omega)).symm
 induction m with
 | zero =>
  intro i k hm hi hl hk hj
  obtain ⟨k, rfl⟩ : ∃ k', k = k' + 1 := ⟨k - 1, by omega⟩
  have : i = L.length := by omega
  subst this
  exact fin k hj
 | succ m ih =>
  intro i k hm hi hl hk hj
  obtain ⟨k, rfl⟩ : ∃ k', k = k' + 1 := ⟨k - 1, by omega⟩
  rcases Nat.lt_or_ge i L.length with h | h
  ·rw [stanzaref01_Begins.l0.eq_2, if_pos (by omega), if_pos (by omega)]
   by_cases b1 : rd L (i : Int) < 128
   ·rw [if_pos b1, decide_eq_false (fun hh => by have := hh.1 i (Nat.le_refl _) h; omega)]
   ·rw [if_neg b1]
    by_cases b2 : rd L (i : Int) > 191
    ·rw [if_pos b2, decide_eq_false (fun hh => by have := hh.1 i (Nat.le_refl _) h; omega)]
    ·rw [if_neg b2, w64 _ ⟨by omega, by omega⟩, show (i : Int) + 1 = ((i + 1 : Nat) : Int) by omega, ih (i + 1) k (by omega) (by omega) (by omega) (by omega) (fun j h1 h2 => by
      rcases Nat.lt_or_ge j i with h3 | h3
      ·exact hj j h1 h3
      ·rw [show j = i by omega]; exact ⟨by omega, by omega⟩)]
     congr 1
     exact decide_eq_decide.2 ⟨fun hh => ⟨fun j h1 h2 => by
      rcases Nat.lt_or_ge i j with h3 | h3
      ·exact hh.1 j (by omega) h2
      ·rw [show j = i by omega]; exact ⟨by omega, by omega⟩, hh.2⟩, fun hh => ⟨fun j h1 h2 => hh.1 j (by omega) h2, hh.2⟩⟩
  ·have : i = L.length := by omega
   subst this
   exact fin k hj
open Classical in
theorem beg_eq (L : List Int) (hL : L.length ≤ 8) (h1 : 1 ≤ L.length) (k : Nat) : stanzaref01_Begins.f (k + 12) L = some (decide ((L.length : Int) ≤ lenM (rd L 0) ∧ goOn L 1 ∧ second L)) := by
 have h0 : ∀ b : Bool, stanzaref01_Begins.j0 (k + 12) L b = if b = true then some false else stanzaref01_Begins.l0 (k + 11) L 1 := fun _ => rfl
 unfold stanzaref01_Begins.f
 rw [if_neg (by omega), if_pos (by omega), show k + 12 = k + 10 + 2 from rfl, len_eq, Option.bind_some, show k + 10 + 2 = k + 12 from rfl, h0]
 by_cases h : (L.length : Int) > lenM (rd L 0)
 ·rw [decide_eq_true h, if_pos rfl, decide_eq_false (fun hh => by have := hh.1; omega)]
 ·rw [decide_eq_false h, if_neg (by decide)]
  have := beg_run L hL h1 L.length 1 (k + 11) (by omega) (Nat.le_refl _) h1 (by omega) (fun j a b => by omega)
  rw [show ((1 : Nat) : Int) = 1 from rfl] at this
  rw [this]
  congr 1
  exact decide_eq_decide.2 ⟨fun hh => ⟨by omega, hh⟩, fun hh => hh.2⟩
theorem cut_len (l : List Int) (a n : Nat) (h : a + n ≤ l.length) : ((l.take (a + n)).drop a).length = n := by
 rw [List.length_drop, List.length_take]; omega
theorem cut_rd (l : List Int) (a n j : Nat) (_h : a + n ≤ l.length) (hj : j < n) : rd ((l.take (a + n)).drop a) (j : Int) = rd l ((a + j : Nat) : Int) := by
 rw [rd, rd, Int.toNat_natCast, Int.toNat_natCast, List.getD_eq_getElem?_getD, List.getD_eq_getElem?_getD, List.getElem?_drop, List.getElem?_take, if_pos (by omega)]
def begN (l : List Int) (a n : Nat) : Prop := (n : Int) ≤ lenM (rd l (a : Int)) ∧ (∀ j : Nat, 1 ≤ j → j < n → 128 ≤ rd l ((a + j : Nat) : Int) ∧ rd l ((a + j : Nat) : Int) ≤ 191) ∧ (2 ≤ n → lo (rd l (a : Int)) ≤ rd l ((a + 1 : Nat) : Int) ∧ rd l ((a + 1 : Nat) : Int) ≤ hi (rd l (a : Int)))
open Classical in
theorem beg_cut (l : List Int) (a n : Nat) (h1 : 1 ≤ n) (h8 : n ≤ 8) (h : a + n ≤ l.length) (k : Nat) : stanzaref01_Begins.f (k + 12) ((l.take (a + n)).drop a) = some (decide (begN l a n)) := by
 have hl := cut_len l a n h
 have r0 : rd ((l.take (a + n)).drop a) 0 = rd l (a : Int) := by
  have := cut_rd l a n 0 h (by omega)
  rw [Nat.add_zero] at this
  exact this
 rw [beg_eq _ (by omega) (by omega)]
 congr 1
 refine decide_eq_decide.2 ?_
 unfold goOn second begN
 rw [hl, r0]
 constructor
 ·rintro ⟨x1, x2, x3⟩
  refine ⟨x1, fun j a1 a2 => ?_, fun h2 => ?_⟩
  ·have := x2 j a1 a2
   rwa [cut_rd l a n j h a2] at this
  ·have := x3 h2
   have r1 := cut_rd l a n 1 h (by omega)
   rw [show ((1 : Nat) : Int) = 1 from rfl] at r1
   rwa [r1] at this
 ·rintro ⟨x1, x2, x3⟩
  refine ⟨x1, fun j a1 a2 => ?_, fun h2 => ?_⟩
  ·rw [cut_rd l a n j h a2]; exact x2 j a1 a2
  ·have r1 := cut_rd l a n 1 h (by omega)
   rw [show ((1 : Nat) : Int) = 1 from rfl] at r1
   rw [r1]; exact x3 h2
end Go.Proofs.Ytoefjhdcipgacaa.Dec
end
