/-
  Part 13 of what the law HyphApart rests on: contracts of the functions that it calls, and plain laws of what they compute.
-/
import Derived.Deep.RegionLaw
import Derived.BigRegion
import Derived.Test.YtoefjhdcipgacaaHA6
import Derived.Test.YtoefjhdcipgacaaHA12
section
namespace Go.Proofs.Ytoefjhdcipgacaa.Hy
open Go.RowKit Go.Proofs.YtoefjhdcipgacaaW.PrintWords Go.Proofs.YtoefjhdcipgacaaW.PrintLast Go.Proofs.YtoefjhdcipgacaaW.PrintMore
open Go.Proofs.Ytoefjhdcipgacaa.PA
attribute [local go_sem] max2_int min2_int max_two min_two
theorem take_succ_eq {a b : List Int} {j : Nat} (ha : j < a.length) (hb : j < b.length) (h : a.take j = b.take j) : a.take (j + 1) = b.take (j + 1) ↔ rd a (j : Int) = rd b (j : Int) := by
  have e1 : rd a (j : Int) = a[j] := by simp [rd, List.getD_eq_getElem?_getD, List.getElem?_eq_getElem ha]
  have e2 : rd b (j : Int) = b[j] := by simp [rd, List.getD_eq_getElem?_getD, List.getElem?_eq_getElem hb]
  rw [List.take_succ_eq_append_getElem ha, List.take_succ_eq_append_getElem hb, h, e1, e2]
  exact ⟨fun h => List.head_eq_of_cons_eq (List.append_cancel_left h), fun h => by rw [h]⟩
set_option maxHeartbeats 4000000 in
set_option maxRecDepth 100000 in
theorem equal_calls (A0 : Option Addr) (c0 : Nat) (a : List Int) (A1 : Option Addr) (c1 : Nat) (b : List Int) (w : World) (hr0 : Kd.C (Kd.int .i32) w A0 a.length a) (hr1 : Kd.C (Kd.int .i32) w A1 b.length b) :
    Calls Try.prog 47 #[.slice A0 a.length c0, .slice A1 b.length c1] w fun e w' => e = .returned (.bool (decide (a = b))) ∧ ∃ nd, w' = w.drewN nd := by
  have H0 := Aside0.mk hr0
  have H1 := Aside0.mk hr1
  have hm : a.length ≤ 9223372036854775807 := Kd.C_max hr0
  clear hr0 hr1
  go_enter Try.func47, Try.ntmps47
  by_cases hl : a.length = b.length
  · have hl1 : (a.length : Int) = (b.length : Int) := by omega
    go_wp2_with fail
    go_loopg [5, 13] a.length (fun g v5 v13 w' => ∃ j : Nat, v13 = .int .i64 j ∧ Aside0 (g + j = a.length) ∧ Aside0 (a.take j = b.take j) ∧ ∃ n, w' = w.drewN n)
    case atStart => exact ⟨0, rfl, ⟨rfl⟩, ⟨rfl⟩, 0, rfl⟩
    case round =>
      obtain ⟨j, rfl, HG, HT, nd, rfl⟩ := hrel
      by_cases hj : j < a.length
      · obtain ⟨ax, ex, hx⟩ := Kd.at_int H0.out (j : Int) (by omega) (by omega)
        obtain ⟨ay, ey, hy⟩ := Kd.at_int H1.out (j : Int) (by omega) (by omega)
        subst ex ey
        rw [Int.toNat_natCast] at hx hy
        have hiff := take_succ_eq hj (by omega) HT.out
        have HI := Aside0.mk hiff
        clear hiff
        obtain ⟨x, hxe⟩ : ∃ x, rd a (j : Int) = x := ⟨_, rfl⟩
        obtain ⟨y, hye⟩ : ∃ y, rd b (j : Int) = y := ⟨_, rfl⟩
        rw [hxe] at hx
        rw [hye] at hy
        have HX := Aside0.mk hxe
        have HY := Aside0.mk hye
        clear hxe hye
        have p1 : (0 : Int) ≤ (j : Int) := by omega
        have q1 : (j : Int) < (a.length : Int) := by omega
        have q2 : (j : Int) < (b.length : Int) := by omega
        by_cases hxy : x = y
        · subst hxy
          go_wp2_with fail
          go_region
          all_goals go_wp2_with fail
          all_goals
            go_roundg (a.length - (j + 1))
            case measure => have := HG.out; omega
            case rel => exact ⟨j + 1, by go_num, ⟨by omega⟩, ⟨HI.out.2 (HX.out.trans HY.out.symm)⟩, _, rfl⟩
        · have HDD := Aside0.mk (show decide (a = b) = false from decide_eq_false (fun h => hxy (by rw [← HX.out, ← HY.out, h])))
          go_wp2_with fail
          go_region
          all_goals go_wp2_with fail
          all_goals go_ret
          all_goals exact ⟨by rw [HDD.out]; rfl, _, rfl⟩
      · have hje : j = a.length := by have := HG.out; omega
        subst hje
        have HDD := Aside0.mk (show decide (a = b) = true from decide_eq_true (by
          have := HT.out
          rw [List.take_length, hl, List.take_length] at this
          exact this))
        go_wp2_with fail
        go_ret
        exact ⟨by rw [HDD.out]; rfl, _, rfl⟩
  · have hl1 : ¬ (a.length : Int) = (b.length : Int) := by omega
    have HDD := Aside0.mk (show decide (a = b) = false from decide_eq_false (fun h => hl (by rw [h])))
    go_wp2_with fail
    go_ret
    exact ⟨by rw [HDD.out]; rfl, 0, rfl⟩
end Go.Proofs.Ytoefjhdcipgacaa.Hy
end
section
namespace Go.Proofs.Ytoefjhdcipgacaa.Hy
open Go.RowKit Go.Proofs.YtoefjhdcipgacaaW.PrintWords Go.Proofs.YtoefjhdcipgacaaW.PrintLast Go.Proofs.YtoefjhdcipgacaaW.PrintMore
open Go.Proofs.Ytoefjhdcipgacaa.PA
attribute [local go_sem] max2_int min2_int max_two min_two
theorem isHyphen_calls (r a n : Int) (w : World) : Calls Try.prog 62 #[.agg #[.int .i32 r, .int .i64 a, .int .i64 n]] w fun e w' => e = .returned (.bool (decide (r = 45))) ∧ Below w.heap.size w w' := by
  go_enter Try.func62, Try.ntmps62
  go_wp2_with fail
  go_ret
  exact ⟨rfl, below_alloc (Below.refl _ _) _⟩
def hasHyphen (s : List S66) : Bool := s.any fun x => decide (x.f0 = 45)
set_option maxHeartbeats 4000000 in
set_option maxRecDepth 100000 in
theorem indexHyphen_calls (s : List S66) (A : Option Addr) (c : Nat) (w : World) (hr : Kd.C k66 w A s.length s) :
    Calls Try.prog 64 #[.slice A s.length c, .func (.func 62) #[] #[]] w fun e w' => ∃ i : Int, e = .returned (.int .i64 i) ∧ decide (0 ≤ i) = hasHyphen s ∧ Below w.heap.size w w' := by
  have HR := Aside0.mk hr
  have hm : s.length ≤ 9223372036854775807 := Kd.C_max hr
  clear hr
  go_enter Try.func64, Try.ntmps64
  go_wp2_with fail
  go_loopg [5, 8] s.length (fun g v5 v8 w' => ∃ j : Nat, v8 = .int .i64 j ∧ Aside0 (g + j = s.length) ∧ Aside0 (hasHyphen (s.take j) = false) ∧ Aside0 (Below w.heap.size w w'))
  case atStart => exact ⟨0, rfl, ⟨rfl⟩, ⟨rfl⟩, ⟨Below.refl _ _⟩⟩
  case round =>
    obtain ⟨j, rfl, HG, HT, HB⟩ := hrel
    by_cases hj : j < s.length
    · obtain ⟨ad, e1, hx0, hx1, hx2⟩ := at_T66 HR.out (j : Int) (by omega) (by omega)
      subst e1
      replace hx0 := (HB.out.cell (World.block_lt_of_cell? w _ hx0)).trans hx0
      replace hx1 := (HB.out.cell (World.block_lt_of_cell? w _ hx1)).trans hx1
      replace hx2 := (HB.out.cell (World.block_lt_of_cell? w _ hx2)).trans hx2
      simp only [Int.toNat_natCast] at hx0 hx1 hx2
      have p1 : (0 : Int) ≤ (j : Int) := by omega
      have q1 : (j : Int) < (s.length : Int) := by omega
      obtain ⟨x, hxe⟩ : ∃ x, rd_T66 s (j : Int) = x := ⟨_, rfl⟩
      rw [hxe] at hx0 hx1 hx2
      have HX := Aside0.mk hxe
      clear hxe
      by_cases hh : x.f0 = 45
      · have hd : decide (x.f0 = 45) = true := decide_eq_true hh
        have HH : Aside0 (hasHyphen s = true) := ⟨by
          rw [hasHyphen, List.any_eq_true]
          have hx : x ∈ s := by rw [← HX.out]; simp [rd_T66, List.getD_eq_getElem?_getD, List.getElem?_eq_getElem hj]
          exact ⟨x, hx, hd⟩⟩
        clear hh
        go_wp2_with (go_at_call 62; refine (isHyphen_calls _ _ _ _).mono ?_; rw [hd]; rintro e w2 ⟨rfl, hb⟩; replace HB := Aside0.mk (below_step HB.out hb); clear hb)
        go_ret
        exact ⟨_, rfl, by rw [HH.out]; exact decide_eq_true (by omega), HB.out⟩
      · have hd : decide (x.f0 = 45) = false := decide_eq_false hh
        clear hh
        go_wp2_with (go_at_call 62; refine (isHyphen_calls _ _ _ _).mono ?_; rw [hd]; rintro e w2 ⟨rfl, hb⟩; replace HB := Aside0.mk (below_step HB.out hb); clear hb)
        go_roundg (s.length - (j + 1))
        case measure => have := HG.out; omega
        case rel =>
          refine ⟨j + 1, by go_num, ⟨by omega⟩, ⟨?_⟩, HB⟩
          have h1 := HT.out
          have h2 : s[j] = x := by rw [← HX.out]; simp [rd_T66, List.getD_eq_getElem?_getD, List.getElem?_eq_getElem hj]
          rw [hasHyphen] at h1 ⊢
          rw [List.take_succ_eq_append_getElem hj, List.any_append, h1, h2]
          simp [hd]
    · have hje : j = s.length := by have := HG.out; omega
      subst hje
      have h1 := HT.out
      rw [List.take_length] at h1
      have HH := Aside0.mk h1
      clear h1 hj HT HG
      go_wp2_with fail
      go_ret
      exact ⟨_, rfl, by rw [HH.out]; rfl, HB.out⟩
set_option maxHeartbeats 4000000 in
set_option maxRecDepth 100000 in
theorem containsHyphen_calls (s : List S66) (A : Option Addr) (c : Nat) (w : World) (hr : Kd.C k66 w A s.length s) :
    Calls Try.prog 61 #[.slice A s.length c, .func (.func 62) #[] #[]] w fun e w' => e = .returned (.bool (hasHyphen s)) ∧ Below w.heap.size w w' := by
  have HR := Aside0.mk hr
  clear hr
  go_enter Try.func61, Try.ntmps61
  go_wp2_with (go_at_call 64; refine (indexHyphen_calls s A c _ HR.out).mono ?_; rintro e w2 ⟨i, rfl, hi, hb⟩; have HB := Aside0.mk hb; have HI := Aside0.mk hi; clear hb hi)
  go_ret
  exact ⟨by rw [← HI.out]; rfl, HB.out⟩
set_option maxHeartbeats 4000000 in
set_option maxRecDepth 100000 in
theorem hyphened_calls (s : List S66) (A : Option Addr) (c : Nat) (w : World) (hr : Kd.C k66 w A s.length s) :
    Calls Try.prog 53 #[.slice A s.length c] w fun e w' => e = .returned (.bool (hasHyphen s)) ∧ Below w.heap.size w w' := by
  have HR := Aside0.mk hr
  clear hr
  go_enter Try.func53, Try.ntmps53
  go_wp2_with (go_at_call 61; refine (containsHyphen_calls s A c _ HR.out).mono ?_; rintro e w2 ⟨rfl, hb⟩; have HB := Aside0.mk hb; clear hb)
  go_ret
  exact ⟨rfl, HB.out⟩
end Go.Proofs.Ytoefjhdcipgacaa.Hy
end
section
namespace Go.Proofs.Ytoefjhdcipgacaa.PA
open Go.RowKit Go.Proofs.YtoefjhdcipgacaaW.PrintWords Go.Proofs.YtoefjhdcipgacaaW.PrintLast Go.Proofs.YtoefjhdcipgacaaW.PrintMore
def pats_hyphened.f (l0 : List (S66)) : Option (Bool) := some (Hy.hasHyphen l0)
theorem pats_hyphened.calls (A0 : Option Addr) (c0 : Nat) (l0 : List (S66)) (r : Bool) (w : World) (hr0 : Kd.C k66 w A0 l0.length l0) (_hc0 : l0.length ≤ c0) (h : pats_hyphened.f l0 = some r) :
    Calls Try.prog 53 #[.slice A0 l0.length c0] w fun e w' => e = .returned (.bool r) ∧ Below w.heap.size w w' := by
  injection h with h
  subst h
  exact Hy.hyphened_calls l0 A0 c0 w hr0
end Go.Proofs.Ytoefjhdcipgacaa.PA
end
section
namespace Go.Proofs.Ytoefjhdcipgacaa.PA
open Go.RowKit Go.Proofs.YtoefjhdcipgacaaW.PrintWords Go.Proofs.YtoefjhdcipgacaaW.PrintLast Go.Proofs.YtoefjhdcipgacaaW.PrintMore
attribute [local go_sem] max2_int min2_int max_two min_two max_three min_three max_four min_four   -- for this text's walks alone
set_option linter.unusedVariables false
set_option linter.unusedSimpArgs false
mutual
def pats_one.l0 : Nat → List (S66) → Bool → Bool → Int → List (S66) → Int → Int → List Int → List Int → Option (List Int × List Int × Bool)
  | 0, _, _, _, _, _, _, _, _, _ => none
  | k + 1, x0, x4, x6, x7, x17, x18, x19, xa0, xa1 => if x19 < x18 then (if 0 ≤ x19 then (if x19 < (x17.length : Int) then (if ((rd_T66 x17 x19).f0) = 65533 then (some (xa0, xa1, false)) else (if ((rd_T66 x17 x19).f0) = 45 then (pats_one.j1 k x0 x4 x6 x7 x19 (xa0.length : Int) x17 x18 x19 true xa0 xa1 ((rd_T66 x17 x19).f0) ((rd_T66 x17 x19).f1) ((rd_T66 x17 x19).f2)) else (if ((rd_T66 x17 x19).f0) ≥ 48 then (pats_one.j1 k x0 x4 x6 x7 x19 (xa0.length : Int) x17 x18 x19 (decide (((rd_T66 x17 x19).f0) ≤ 57)) xa0 xa1 ((rd_T66 x17 x19).f0) ((rd_T66 x17 x19).f1) ((rd_T66 x17 x19).f2)) else (pats_one.j1 k x0 x4 x6 x7 x19 (xa0.length : Int) x17 x18 x19 false xa0 xa1 ((rd_T66 x17 x19).f0) ((rd_T66 x17 x19).f1) ((rd_T66 x17 x19).f2))))) else (none)) else (none)) else (if x7 > 0 then (some (xa0, xa1, decide ((xa0.length : Int) ≤ 24))) else (some (xa0, xa1, false)))
def pats_one.j1 : Nat → List (S66) → Bool → Bool → Int → Int → Int → List (S66) → Int → Int → Bool → List Int → List Int → Int → Int → Int → Option (List Int × List Int × Bool)
  | 0, _, _, _, _, _, _, _, _, _, _, _, _, _, _, _ => none
  | k + 1, x0, x4, x6, x7, x8, x10, x17, x18, x19, x46, xa0, xa1, x233000, x233001, x233002 => if x46 = true then (if x6 = true then (pats_one.j2 k x0 x4 x7 x10 x17 x18 x19 true xa0 xa1 x233000 x233001 x233002) else (if (x4 != (x233000 == 45)) = true then (pats_one.j2 k x0 x4 x7 x10 x17 x18 x19 true xa0 xa1 x233000 x233001 x233002) else (if x4 = true then (if x10 = 0 then (pats_one.j2 k x0 x4 x7 x10 x17 x18 x19 true xa0 xa1 x233000 x233001 x233002) else (pats_one.j2 k x0 x4 x7 x10 x17 x18 x19 (x8 == (wrap64 ((x0.length : Int) - 1))) xa0 xa1 x233000 x233001 x233002)) else (pats_one.j2 k x0 x4 x7 x10 x17 x18 x19 false xa0 xa1 x233000 x233001 x233002)))) else (if x233000 = 46 then (if x4 = true then (some (xa0, xa1, false)) else (if x8 = 0 then ((some (([46] : List Int) : List Int)).bind fun y235 => (if xa0.length + y235.length < 35184372088832 then ((some (([0] : List Int) : List Int)).bind fun y241 => (if xa1.length + y241.length < 140737488355328 then (pats_one.l0 k x0 x4 false x7 x17 x18 (wrap64 (x19 + 1)) (xa0 ++ y235) (xa1 ++ y241)) else (none))) else (none))) else (if (x8 = (wrap64 ((x0.length : Int) - 1))) then ((some (([46] : List Int) : List Int)).bind fun y247 => (if xa0.length + y247.length < 35184372088832 then ((some (([0] : List Int) : List Int)).bind fun y253 => (if xa1.length + y253.length < 140737488355328 then (pats_one.l0 k x0 x4 false x7 x17 x18 (wrap64 (x19 + 1)) (xa0 ++ y247) (xa1 ++ y253)) else (none))) else (none))) else (some (xa0, xa1, false))))) else ((some (([x233000] : List Int) : List Int)).bind fun y259 => (if xa0.length + y259.length < 35184372088832 then ((some (([0] : List Int) : List Int)).bind fun y265 => (if xa1.length + y265.length < 140737488355328 then (pats_one.l0 k x0 x4 false (wrap64 (x7 + 1)) x17 x18 (wrap64 (x19 + 1)) (xa0 ++ y259) (xa1 ++ y265)) else (none))) else (none))))
def pats_one.j2 : Nat → List (S66) → Bool → Int → Int → List (S66) → Int → Int → Bool → List Int → List Int → Int → Int → Int → Option (List Int × List Int × Bool)
  | 0, _, _, _, _, _, _, _, _, _, _, _, _, _ => none
  | k + 1, x0, x4, x7, x10, x17, x18, x19, x81, xa0, xa1, x233000, x233001, x233002 => if x81 = true then (some (xa0, xa1, false)) else (if 0 ≤ x10 then (if x10 < (xa1.length : Int) then ((some (xa1.set (x10 : Int).toNat 1 : List Int)).bind fun y233 => (if x4 = true then (pats_one.l0 k x0 x4 true x7 x17 x18 (wrap64 (x19 + 1)) xa0 y233) else (pats_one.l0 k x0 x4 true x7 x17 x18 (wrap64 (x19 + 1)) xa0 (y233.set (x10 : Int).toNat ((wrap32 (x233000 - 48)) % 256))))) else (none)) else (none))
end
def pats_one.f (k : Nat) (l0 : List (S66)) : Option (List Int × List Int × Bool) := (pats_hyphened.f l0).bind fun t226 => (pats_one.l0 k l0 t226 false 0 l0 (l0.length : Int) 0 ([] : List Int) (([0] : List Int)))
def pats_one.T10 : Bool × List (List Nat × List Nat) := (true, [([], []), ([0], [0]), ([], []), ([2], [2]), ([3], [3]), ([1, 4], [1, 4]), ([], []), ([6], [6]), ([], []), ([7, 8, 5], [7, 8]), ([0, 1, 2, 3, 4, 5, 6, 7], []), ([10, 5, 9, 0, 1, 2, 3, 4, 5, 6, 7], [5, 10]), ([0, 1, 2, 3, 4, 5, 6, 7, 8, 9, 10, 11], []), ([12, 9, 11, 0, 1, 2, 3, 4, 5, 6, 7, 8, 9, 10, 11], [9, 12]), ([13, 0, 1, 2, 3, 4, 5, 6, 7, 8, 9, 10, 11, 12, 13], [])])
def pats_one.B10 : List Nat := [0, 1, 0, 4, 12, 31, 0, 64, 0, 511, 255, 2047, 4095, 8191, 16383]
theorem pats_one.tab10 : rtab .any (opsOf Try.f52 10) = pats_one.T10 := by kernel_rfl
theorem pats_one.bits10 : waitsOk pats_one.T10.2 pats_one.B10 = true := by kernel_rfl
def pats_one.T24 : Bool × List (List Nat × List Nat) := (true, [([], []), ([0], [0]), ([], []), ([1, 2], [1, 2]), ([], []), ([4], [4]), ([], []), ([5, 6, 3], [5, 6]), ([0, 1, 2, 3, 4, 5], []), ([8, 3, 7, 0, 1, 2, 3, 4, 5], [3, 8]), ([0, 1, 2, 3, 4, 5, 6, 7, 8, 9], []), ([10, 7, 9, 0, 1, 2, 3, 4, 5, 6, 7, 8, 9], [7, 10]), ([11, 0, 1, 2, 3, 4, 5, 6, 7, 8, 9, 10, 11], [])])
def pats_one.B24 : List Nat := [0, 1, 0, 7, 0, 16, 0, 127, 63, 511, 1023, 2047, 4095]
theorem pats_one.tab24 : rtab .any (opsOf Try.f52 24) = pats_one.T24 := by kernel_rfl
theorem pats_one.bits24 : waitsOk pats_one.T24.2 pats_one.B24 = true := by kernel_rfl
def pats_one.T26 : Bool × List (List Nat × List Nat) := (true, [([], []), ([], []), ([1], [1]), ([2], [2]), ([3], [3]), ([4, 3], [3, 4]), ([5, 3], [3, 5]), ([6, 3], [3, 6]), ([3, 7], [3, 7]), ([0, 3, 0], [0]), ([8, 9, 0, 1, 2, 3, 4, 5, 6, 7, 8, 9], [8])])
def pats_one.B26 : List Nat := [0, 0, 2, 6, 14, 30, 62, 126, 254, 15, 1023]
theorem pats_one.tab26 : rtab .any (opsOf Try.f52 26) = pats_one.T26 := by kernel_rfl
theorem pats_one.bits26 : waitsOk pats_one.T26.2 pats_one.B26 = true := by kernel_rfl
end Go.Proofs.Ytoefjhdcipgacaa.PA
end
