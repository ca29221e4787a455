/-
  Part 7 of what the law HyphApart rests on: contracts of the functions that it calls, and plain laws of what they compute.
-/
import Derived.Laws.IdiomStrings
import Derived.Laws.BitsLemmas
import Derived.Test.YtoefjhdcipgacaaHA6
section
namespace Go.Proofs.Ytoefjhdcipgacaa.PA
open Go.RowKit Go.Proofs.YtoefjhdcipgacaaW.PrintWords Go.Proofs.YtoefjhdcipgacaaW.PrintLast Go.Proofs.YtoefjhdcipgacaaW.PrintMore
def bytesOf (s : ByteArray) : List Int := s.data.toList.map fun b => (b.toNat : Int)
theorem bytesOf_length (s : ByteArray) : (bytesOf s).length = s.size := by
  rw [bytesOf, List.length_map]
  rfl
def convW (w : World) (s : ByteArray) : World := w.drew.alloc (.cells (bytesRow s (grownCap w s.size 0 5)) 5 ((bytesRow s (grownCap w s.size 0 5)).size, (bytesRow s (grownCap w s.size 0 5)).size + 1))
theorem conv_C (w : World) (s : ByteArray) (hs : s.size ≤ 9223372036854775807) : Kd.C (Kd.int .u8) (convW w s) (some ⟨w.heap.size, 0, none⟩) (bytesOf s).length (bytesOf s) := by
  refine ⟨rfl, by rw [bytesOf_length]; exact hs, fun _ => ⟨_, rfl, fun j p hj => ?_⟩⟩
  refine ⟨[.int .u8 p], rfl, rfl, fun i u hu => ?_⟩
  have hi : i = 0 := by
    obtain ⟨h, _⟩ := List.getElem?_eq_some_iff.1 hu
    simp at h
    omega
  subst hi
  injection hu with hu
  subst hu
  rw [bytesOf, List.getElem?_map] at hj
  obtain ⟨b, hb, rfl⟩ := Option.map_eq_some_iff.1 hj
  obtain ⟨hlt, hb⟩ := List.getElem?_eq_some_iff.1 hb
  have hlt' : j < s.data.size := by simpa using hlt
  have hrow := bytesRow_at s (grownCap w s.size 0 5) j hlt'
  have hh : (convW w s).heap[w.heap.size]? = some (.cells (bytesRow s (grownCap w s.size 0 5)) 5 ((bytesRow s (grownCap w s.size 0 5)).size, (bytesRow s (grownCap w s.size 0 5)).size + 1)) := blk_new w.drew _
  have hc := cell_of_row (convW w s) w.heap.size j _ 5 _ hh
  have e : (⟨w.heap.size, 0, none⟩ : Addr).add (j * 1 + 0) = ⟨w.heap.size, j, none⟩ := by
    unfold Addr.add
    by_cases h0 : j = 0
    · subst h0; rfl
    · simp [h0]
  show (convW w s).cell? ((⟨w.heap.size, 0, none⟩ : Addr).add (j * 1 + 0)) = _
  rw [e, hc, hrow]
  have : s.data[j] = b := by simpa using hb
  rw [this]
end Go.Proofs.Ytoefjhdcipgacaa.PA
end
section
namespace Go.Proofs.Ytoefjhdcipgacaa.Dec
open Go.RowKit Go.Proofs.YtoefjhdcipgacaaW.PrintWords Go.Proofs.YtoefjhdcipgacaaW.PrintLast Go.Proofs.YtoefjhdcipgacaaW.PrintMore
open Go.Proofs.Ytoefjhdcipgacaa.PA
theorem w64 (n : Int) (h : -9223372036854775808 ≤ n ∧ n ≤ 9223372036854775807) : wrap64 n = n := by unfold wrap64; omega
theorem w32 (n : Int) (h : -2147483648 ≤ n ∧ n ≤ 2147483647) : wrap32 n = n := by unfold wrap32; omega
def IsBytes (l : List Int) : Prop := ∀ b ∈ l, 0 ≤ b ∧ b < 256
theorem IsBytes.rd {l : List Int} (h : IsBytes l) (i : Int) : 0 ≤ rd l i ∧ rd l i < 256 := by
  rw [Go.Proofs.YtoefjhdcipgacaaW.PrintWords.rd]
  rcases Nat.lt_or_ge i.toNat l.length with h1 | h1
  · rw [List.getD_eq_getElem?_getD, List.getElem?_eq_getElem h1]
    exact h _ (List.getElem_mem h1)
  · rw [List.getD_eq_getElem?_getD, List.getElem?_eq_none h1]
    exact ⟨Int.le_refl _, by decide⟩
theorem isBytes_of (s : ByteArray) : IsBytes (PA.bytesOf s) := by
  intro b hb
  obtain ⟨x, _, rfl⟩ := List.mem_map.1 hb
  exact ⟨by omega, by have := x.toNat_lt; omega⟩
def lo (c : Int) : Int := if c = 224 then 160 else if c = 240 then 144 else 128
def hi (c : Int) : Int := if c = 237 then 159 else if c = 244 then 143 else 191
def inB (l : List Int) (i a b : Int) : Prop := i < (l.length : Int) ∧ a ≤ rd l i ∧ rd l i ≤ b
instance (l : List Int) (i a b : Int) : Decidable (inB l i a b) := by unfold inB; infer_instance
def head (c : Int) : Int := if c < 224 then c % 32 else if c < 240 then c % 16 else c % 8
def dec (l : List Int) (at_ : Int) : Int × Int :=
  let c := rd l at_
  if c < 128 then (c, 1) else if c < 194 ∨ 244 < c then (65533, 1)
  else if ¬ inB l (at_ + 1) (lo c) (hi c) then (65533, 1)
  else if c < 224 then (head c * 64 + (rd l (at_ + 1) - 128), 2)
  else if ¬ inB l (at_ + 2) 128 191 then (65533, 2)
  else if c < 240 then ((head c * 64 + (rd l (at_ + 1) - 128)) * 64 + (rd l (at_ + 2) - 128), 3)
  else if ¬ inB l (at_ + 3) 128 191 then (65533, 3)
  else (((head c * 64 + (rd l (at_ + 1) - 128)) * 64 + (rd l (at_ + 2) - 128)) * 64 + (rd l (at_ + 3) - 128), 4)
theorem lo_ge (c : Int) : 128 ≤ lo c := by unfold lo; split <;> (try split) <;> decide
theorem hi_le (c : Int) : hi c ≤ 191 := by unfold hi; split <;> (try split) <;> decide
theorem head_bd (c : Int) : 0 ≤ head c ∧ head c < 32 := by unfold head; split <;> (try split) <;> omega
theorem dec_len (l : List Int) (at_ : Int) : 1 ≤ (dec l at_).2 ∧ (dec l at_).2 ≤ 4 := by
  unfold dec
  dsimp only
  repeat' split
  all_goals (constructor <;> simp)
theorem dec_in {l : List Int} (h : IsBytes l) (at_ : Int) : 0 ≤ (dec l at_).1 ∧ (dec l at_).1 < 16777216 := by
  have h0 := h.rd at_
  have h1 := h.rd (at_ + 1)
  have h2 := h.rd (at_ + 2)
  have h3 := h.rd (at_ + 3)
  have hh := head_bd (rd l at_)
  have hl := lo_ge (rd l at_)
  have hu := hi_le (rd l at_)
  unfold dec
  dsimp only
  repeat' split
  all_goals (simp only [inB] at *; omega)
section
variable {l : List Int} {at_ n a b acc i r0 r1 r2 : Int} {k : Nat}
theorem l0_end (h : ¬ i < n) : scal_One.l0 (k + 1) l at_ n a b acc i r0 r1 r2 = some (acc, r1, r2) := by
  simp only [scal_One.l0, if_neg h]
theorem l0_bad (h : i < n) (h0 : 0 ≤ at_) (hs : at_ ≤ 100000) (hi0 : 1 ≤ i) (hi1 : i ≤ 4) (hb : ¬ inB l (at_ + i) a b) : scal_One.l0 (k + 1) l at_ n a b acc i r0 r1 r2 = some (r0, r1, r2) := by
  simp only [scal_One.l0, if_pos h]
  have hw : wrap64 (at_ + i) = at_ + i := w64 _ ⟨by omega, by omega⟩
  rw [hw]
  by_cases h1 : at_ + i ≥ (l.length : Int)
  · rw [if_pos h1]
  · rw [if_neg h1, if_pos (by omega), if_pos (by omega)]
    by_cases h2 : rd l (at_ + i) < a
    · rw [if_pos h2]
    · rw [if_neg h2, if_pos (by simp only [inB, not_and] at hb; have := hb (by omega) (by omega); omega)]
theorem l0_step (hl : IsBytes l) (h : i < n) (h0 : 0 ≤ at_) (hs : at_ ≤ 100000) (hi0 : 1 ≤ i) (hi1 : i ≤ 4) (hb : inB l (at_ + i) a b) (ha : 128 ≤ a) (hbb : b ≤ 191) (hacc : 0 ≤ acc ∧ acc < 1048576) :
    scal_One.l0 (k + 1) l at_ n a b acc i r0 r1 r2 = scal_One.l0 k l at_ n 128 191 (acc * 64 + (rd l (at_ + i) - 128)) (i + 1) r0 r1 (i + 1) := by
  simp only [scal_One.l0, if_pos h]
  have hw : wrap64 (at_ + i) = at_ + i := w64 _ ⟨by omega, by omega⟩
  have hw1 : wrap64 (i + 1) = i + 1 := w64 _ ⟨by omega, by omega⟩
  obtain ⟨h1, h2, h3⟩ := hb
  rw [hw, hw1, if_neg (by omega), if_pos (by omega), if_pos h1, if_neg (by omega), if_neg (by omega)]
  have hr := hl.rd (at_ + i)
  rw [Go.u8_and63 _ hr.1 hr.2]
  have e1 : wrap32 (acc * 64) = acc * 64 := w32 _ ⟨by omega, by omega⟩
  have e2 : wrap32 (rd l (at_ + i) % 64) = rd l (at_ + i) % 64 := w32 _ ⟨by omega, by omega⟩
  rw [e1, e2, Go.i32_or6 _ _ (by omega) (by omega) (by omega) (by omega) (by omega)]
  rw [show acc * 64 + rd l (at_ + i) % 64 = acc * 64 + (rd l (at_ + i) - 128) by omega]
end
theorem need_eq (c : Int) (k : Nat) : scal_need.f (k + 1) c = some (if c < 128 then (1, 0, 0) else if c < 194 ∨ 244 < c then (0, 0, 0) else if c < 224 then (2, lo c, hi c) else if c < 240 then (3, lo c, hi c) else (4, lo c, hi c)) := by
  have h : ∀ b : Bool, scal_need.j0 (k + 1) c b = if b = true then some (0, 0, 0) else (if c < 224 then some (2, 128, 191) else (if c = 224 then some (3, 160, 191) else (if c = 237 then some (3, 128, 159) else (if c < 240 then some (3, 128, 191) else (if c = 240 then some (4, 144, 191) else (if c = 244 then some (4, 128, 143) else some (4, 128, 191))))))) := fun b => rfl
  unfold scal_need.f
  rw [h, h, if_pos rfl]
  simp only [decide_eq_true_eq]
  by_cases c1 : c < 128
  · rw [if_pos c1, if_pos c1]
  rw [if_neg c1, if_neg c1]
  by_cases c2 : c < 194
  · rw [if_pos c2, if_pos (Or.inl c2)]
  rw [if_neg c2]
  by_cases c3 : c > 244
  · rw [if_pos c3, if_pos (Or.inr c3)]
  rw [if_neg c3, if_neg (show ¬ (c < 194 ∨ 244 < c) by omega)]
  by_cases c4 : c < 224
  · rw [if_pos c4, if_pos c4]
    unfold lo hi
    rw [if_neg (by omega), if_neg (by omega), if_neg (by omega), if_neg (by omega)]
  rw [if_neg c4, if_neg c4]
  by_cases c5 : c = 224
  · subst c5; rfl
  rw [if_neg c5]
  by_cases c6 : c = 237
  · subst c6; rfl
  rw [if_neg c6]
  by_cases c7 : c < 240
  · rw [if_pos c7, if_pos c7]
    unfold lo hi
    rw [if_neg (by omega), if_neg (by omega), if_neg (by omega), if_neg (by omega)]
  rw [if_neg c7, if_neg c7]
  by_cases c8 : c = 240
  · subst c8; rfl
  rw [if_neg c8]
  by_cases c9 : c = 244
  · subst c9; rfl
  rw [if_neg c9]
  unfold lo hi
  rw [if_neg c5, if_neg c8, if_neg c6, if_neg c9]
theorem and_mask (c : Int) (i : Nat) (hi : i ≤ 31) (h0 : 0 ≤ c) (h1 : c < 256) : Go.bits .and .i32 c ((2 : Int) ^ i - 1) = c % 2 ^ i :=
  Go.bits_mask .i32 31 (by decide) Go.wraps_i32 i hi c h0 (by omega)
theorem one_eq {l : List Int} (hl : IsBytes l) (at_ : Int) (h0 : 0 ≤ at_) (h1 : at_ < (l.length : Int)) (hs : l.length ≤ 100000) (k : Nat) : scal_One.f (k + 8) l at_ = some ((dec l at_).1, at_, (dec l at_).2) := by
  have hr := hl.rd at_
  have hw : wrap32 (rd l at_) = rd l at_ := w32 _ ⟨by omega, by omega⟩
  have e : scal_One.f (k + 8) l at_ = scal_One.j0 (k + 8) l at_ false := by
    unfold scal_One.f
    rw [if_neg (by omega), decide_eq_false (by omega)]
  rw [e]
  simp only [scal_One.j0, if_pos h0, if_pos h1, need_eq, Option.bind_some, hw, Bool.false_eq_true, if_false]
  have hlo := lo_ge (rd l at_)
  have hhi := hi_le (rd l at_)
  unfold dec
  dsimp only
  by_cases c1 : rd l at_ < 128
  · simp [c1]
  by_cases c2 : rd l at_ < 194 ∨ 244 < rd l at_
  · simp [c1, c2]
  simp only [if_neg c1, if_neg c2]
  have e2 : shr .i32 127 2 = 2 ^ 5 - 1 := by decide
  have e3 : shr .i32 127 3 = 2 ^ 4 - 1 := by decide
  have e4 : shr .i32 127 4 = 2 ^ 3 - 1 := by decide
  by_cases c3 : rd l at_ < 224
  · simp only [if_pos c3, e2, and_mask _ 5 (by decide) hr.1 hr.2]
    rw [if_neg (by decide), if_pos (by decide)]
    by_cases b1 : inB l (at_ + 1) (lo (rd l at_)) (hi (rd l at_))
    · rw [l0_step hl (by decide) h0 (by omega) (by decide) (by decide) b1 hlo hhi (by omega), l0_end (by decide)]
      simp only [not_true_eq_false, if_false, b1, head, if_pos c3]
      rfl
    · rw [l0_bad (by decide) h0 (by omega) (by decide) (by decide) b1]
      simp only [b1, not_false_eq_true, if_true]
  by_cases c4 : rd l at_ < 240
  · simp only [if_neg c3, if_pos c4, e3, and_mask _ 4 (by decide) hr.1 hr.2]
    rw [if_neg (by decide), if_pos (by decide)]
    by_cases b1 : inB l (at_ + 1) (lo (rd l at_)) (hi (rd l at_))
    · have g1 := hl.rd (at_ + 1)
      have b1' := b1
      obtain ⟨_, x1, x2⟩ := b1'
      rw [l0_step hl (by decide) h0 (by omega) (by decide) (by decide) b1 hlo hhi (by omega)]
      by_cases b2 : inB l (at_ + 2) 128 191
      · rw [show (1 : Int) + 1 = 2 from rfl, l0_step hl (by decide) h0 (by omega) (by decide) (by decide) b2 (by decide) (by decide) (by omega), l0_end (by decide)]
        simp only [not_true_eq_false, if_false, b1, b2, head, if_neg c3, if_pos c4]
        rfl
      · rw [show (1 : Int) + 1 = 2 from rfl, l0_bad (by decide) h0 (by omega) (by decide) (by decide) b2]
        simp only [b1, b2, not_true_eq_false, not_false_eq_true, if_true, if_false]
    · rw [l0_bad (by decide) h0 (by omega) (by decide) (by decide) b1]
      simp only [b1, not_false_eq_true, if_true]
  · simp only [if_neg c3, if_neg c4, e4, and_mask _ 3 (by decide) hr.1 hr.2]
    rw [if_neg (by decide), if_pos (by decide)]
    by_cases b1 : inB l (at_ + 1) (lo (rd l at_)) (hi (rd l at_))
    · have g1 := hl.rd (at_ + 1)
      have b1' := b1
      obtain ⟨_, x1, x2⟩ := b1'
      rw [l0_step hl (by decide) h0 (by omega) (by decide) (by decide) b1 hlo hhi (by omega)]
      by_cases b2 : inB l (at_ + 2) 128 191
      · have g2 := hl.rd (at_ + 2)
        have b2' := b2
        obtain ⟨_, x3, x4⟩ := b2'
        rw [show (1 : Int) + 1 = 2 from rfl, l0_step hl (by decide) h0 (by omega) (by decide) (by decide) b2 (by decide) (by decide) (by omega)]
        by_cases b3 : inB l (at_ + 3) 128 191
        · rw [show (2 : Int) + 1 = 3 from rfl, l0_step hl (by decide) h0 (by omega) (by decide) (by decide) b3 (by decide) (by decide) (by omega), l0_end (by decide)]
          simp only [not_true_eq_false, if_false, b1, b2, b3, head, if_neg c3, if_neg c4]
          rfl
        · rw [show (2 : Int) + 1 = 3 from rfl, l0_bad (by decide) h0 (by omega) (by decide) (by decide) b3]
          simp only [b1, b2, b3, not_true_eq_false, not_false_eq_true, if_true, if_false]
      · rw [show (1 : Int) + 1 = 2 from rfl, l0_bad (by decide) h0 (by omega) (by decide) (by decide) b2]
        simp only [b1, b2, not_true_eq_false, not_false_eq_true, if_true, if_false]
    · rw [l0_bad (by decide) h0 (by omega) (by decide) (by decide) b1]
      simp only [b1, not_false_eq_true, if_true]
end Go.Proofs.Ytoefjhdcipgacaa.Dec
end
section
namespace Go.Proofs.Ytoefjhdcipgacaa.Hy
open Go.RowKit Go.Proofs.YtoefjhdcipgacaaW.PrintWords Go.Proofs.YtoefjhdcipgacaaW.PrintLast Go.Proofs.YtoefjhdcipgacaaW.PrintMore
section
variable {P : Program}
theorem cut_max (t e : TypeId) (kl kh km : IntKind) {i : TypeInfo} (ht : P.underlying t = some (.slice e)) (hi : P.info? e = some i) (size : Nat) (hsz : i.size = size) (A : Option Addr) (n c : Nat) (lo hi' : Int) (h0 : 0 ≤ lo) (h1 : lo ≤ hi') (h2 : hi' ≤ n) (hc : n ≤ c) :
    ∀ W : World, (Instr.slice t (.slice A n c) (some (.int kl lo)) (some (.int kh hi')) (some (.int km hi'))).run P W = .ok (.slice (if hi'.toNat = lo.toNat then A else A.map (·.add (lo.toNat * size))) (hi'.toNat - lo.toNat) (hi'.toNat - lo.toNat)) W := by
  intro W
  have hel : P.elem t = e := by simp [Program.elem, ht]
  have hu : P.underlying t = some (.slice (P.elem t)) := by rw [hel]; exact ht
  rw [run_slice_lhm W t A n c hu kl kh km lo hi' hi' h0 h1 (by omega) (by omega), hel]
  simp [sizeOf, typeInfo, hi, hsz, sliced, Result.andThen]
end
theorem C_max {α : Type} {k : Kd α} {w : World} {A : Option Addr} {xs : List α} {lo hi : Nat} (h : k.C w A xs.length xs) (h1 : lo ≤ hi) (h2 : hi ≤ xs.length) : k.C w (if hi = lo then A else A.map (·.add (lo * k.sz))) ((xs.take hi).drop lo).length ((xs.take hi).drop lo) := by
  have hl : (xs.take hi).length = hi := by rw [List.length_take]; omega
  exact Kd.C_drop (Kd.C_take h h2) (by omega) (by omega)
end Go.Proofs.Ytoefjhdcipgacaa.Hy
namespace Go.Proofs.Ytoefjhdcipgacaa.PA
open Go.RowKit Go.Proofs.YtoefjhdcipgacaaW.PrintWords Go.Proofs.YtoefjhdcipgacaaW.PrintLast Go.Proofs.YtoefjhdcipgacaaW.PrintMore
theorem allStrS_calls (k : Nat) (s : ByteArray) (r : List (S66)) (w : World) (hs : s.size ≤ 9223372036854775807) (hc : s.size ≤ grownCap w s.size 0 5) (h : scal_All.f k (bytesOf s) = some r) :
    Calls Try.prog 50 #[.slice (some ⟨w.heap.size, 0, none⟩) s.size (grownCap w s.size 0 5)] (w.drew.alloc (.cells (bytesRow s (grownCap w s.size 0 5)) 5 ((bytesRow s (grownCap w s.size 0 5)).size, (bytesRow s (grownCap w s.size 0 5)).size + 1)))
      fun e w' => ∃ v0_ : Value, e = .returned (v0_) ∧ Kd.R k66 66 w' (w.drew.alloc (.cells (bytesRow s (grownCap w s.size 0 5)) 5 ((bytesRow s (grownCap w s.size 0 5)).size, (bytesRow s (grownCap w s.size 0 5)).size + 1))).heap.size (fun _ => True) v0_ r ∧ Below (w.drew.alloc (.cells (bytesRow s (grownCap w s.size 0 5)) 5 ((bytesRow s (grownCap w s.size 0 5)).size, (bytesRow s (grownCap w s.size 0 5)).size + 1))).heap.size (w.drew.alloc (.cells (bytesRow s (grownCap w s.size 0 5)) 5 ((bytesRow s (grownCap w s.size 0 5)).size, (bytesRow s (grownCap w s.size 0 5)).size + 1))) w' := by
  have := scal_All.calls k (some ⟨w.heap.size, 0, none⟩) (grownCap w s.size 0 5) (bytesOf s) r (convW w s) (conv_C w s hs) (by rw [bytesOf_length]; exact hc) h
  rw [bytesOf_length] at this
  exact this
end Go.Proofs.Ytoefjhdcipgacaa.PA
end
