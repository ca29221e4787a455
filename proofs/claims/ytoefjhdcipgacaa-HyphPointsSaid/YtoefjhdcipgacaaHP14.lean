/-
  Part 14 of what the law HyphPoints rests on: contracts of the functions that it calls, and plain laws of what they compute.
-/
import Derived.Deep.RegionLaw
import Derived.BigRegion
import Derived.Test.YtoefjhdcipgacaaHP6
import Derived.Test.YtoefjhdcipgacaaHP13
section
namespace Go.Proofs.Ytoefjhdcipgacaa.Hy
open Go.RowKit Go.Proofs.YtoefjhdcipgacaaW.PrintWords Go.Proofs.YtoefjhdcipgacaaW.PrintLast Go.Proofs.YtoefjhdcipgacaaW.PrintMore
open Go.Proofs.Ytoefjhdcipgacaa.PA
attribute [local go_sem] max2_int min2_int max_two min_two
theorem take_succ_eq {a b : List Int} {j : Nat} (ha : j < a.length) (hb : j < b.length) (h : a.take j = b.take j) : a.take (j + 1) = b.take (j + 1) ↔ rd a (j : Int) = rd b (j : Int) := by
  have e1 : rd a (j : Int) = a[j] := by simp [rd, List.getD_eq_getElem?_getD, List.getElem?_eq_getElem ha]
  have e2 : rd b (j : Int) = b[j] := by simp [rd, List.getD_eq_getElem?_getD, List.getElem?_eq_getElem hb]
  rw [List.take_succ_eq_append_getElem ha, List.take_succ_eq_append_getElem hb, h, e1, e2]
  exact ⟨fun h => List.head_eq_of_cons_eq (List.append_cancel_left h), fun h => by rw [h]⟩
set_option maxHeartbeats 4000000 in
set_option maxRecDepth 100000 in
theorem equal_calls (A0 : Option Addr) (c0 : Nat) (a : List Int) (A1 : Option Addr) (c1 : Nat) (b : List Int) (w : World) (hr0 : Kd.C (Kd.int .i32) w A0 a.length a) (hr1 : Kd.C (Kd.int .i32) w A1 b.length b) :
    Calls Try.prog 47 #[.slice A0 a.length c0, .slice A1 b.length c1] w fun e w' => e = .returned (.bool (decide (a = b))) ∧ ∃ nd, w' = w.drewN nd := by
  have H0 := Aside0.mk hr0
  have H1 := Aside0.mk hr1
  have hm : a.length ≤ 9223372036854775807 := Kd.C_max hr0
  clear hr0 hr1
  go_enter Try.func47, Try.ntmps47
  by_cases hl : a.length = b.length
  · have hl1 : (a.length : Int) = (b.length : Int) := by omega
    go_wp2_with fail
    go_loopg [5, 13] a.length (fun g v5 v13 w' => ∃ j : Nat, v13 = .int .i64 j ∧ Aside0 (g + j = a.length) ∧ Aside0 (a.take j = b.take j) ∧ ∃ n, w' = w.drewN n)
    case atStart => exact ⟨0, rfl, ⟨rfl⟩, ⟨rfl⟩, 0, rfl⟩
    case round =>
      obtain ⟨j, rfl, HG, HT, nd, rfl⟩ := hrel
      by_cases hj : j < a.length
      · obtain ⟨ax, ex, hx⟩ := Kd.at_int H0.out (j : Int) (by omega) (by omega)
        obtain ⟨ay, ey, hy⟩ := Kd.at_int H1.out (j : Int) (by omega) (by omega)
        subst ex ey
        rw [Int.toNat_natCast] at hx hy
        have hiff := take_succ_eq hj (by omega) HT.out
        have HI := Aside0.mk hiff
        clear hiff
        obtain ⟨x, hxe⟩ : ∃ x, rd a (j : Int) = x := ⟨_, rfl⟩
        obtain ⟨y, hye⟩ : ∃ y, rd b (j : Int) = y := ⟨_, rfl⟩
        rw [hxe] at hx
        rw [hye] at hy
        have HX := Aside0.mk hxe
        have HY := Aside0.mk hye
        clear hxe hye
        have p1 : (0 : Int) ≤ (j : Int) := by omega
        have q1 : (j : Int) < (a.length : Int) := by omega
        have q2 : (j : Int) < (b.length : Int) := by omega
        by_cases hxy : x = y
        · subst hxy
          go_wp2_with fail
          go_region
          all_goals go_wp2_with fail
          all_goals
            go_roundg (a.length - (j + 1))
            case measure => have := HG.out; omega
            case rel => exact ⟨j + 1, by go_num, ⟨by omega⟩, ⟨HI.out.2 (HX.out.trans HY.out.symm)⟩, _, rfl⟩
        · have HDD := Aside0.mk (show decide (a = b) = false from decide_eq_false (fun h => hxy (by rw [← HX.out, ← HY.out, h])))
          go_wp2_with fail
          go_region
          all_goals go_wp2_with fail
          all_goals go_ret
          all_goals exact ⟨by rw [HDD.out]; rfl, _, rfl⟩
      · have hje : j = a.length := by have := HG.out; omega
        subst hje
        have HDD := Aside0.mk (show decide (a = b) = true from decide_eq_true (by
          have := HT.out
          rw [List.take_length, hl, List.take_length] at this
          exact this))
        go_wp2_with fail
        go_ret
        exact ⟨by rw [HDD.out]; rfl, _, rfl⟩
  · have hl1 : ¬ (a.length : Int) = (b.length : Int) := by omega
    have HDD := Aside0.mk (show decide (a = b) = false from decide_eq_false (fun h => hl (by rw [h])))
    go_wp2_with fail
    go_ret
    exact ⟨by rw [HDD.out]; rfl, 0, rfl⟩
end Go.Proofs.Ytoefjhdcipgacaa.Hy
end
section
namespace Go.Proofs.Ytoefjhdcipgacaa.Hy
open Go.RowKit Go.Proofs.YtoefjhdcipgacaaW.PrintWords Go.Proofs.YtoefjhdcipgacaaW.PrintLast Go.Proofs.YtoefjhdcipgacaaW.PrintMore
open Go.Proofs.Ytoefjhdcipgacaa.PA
attribute [local go_sem] max2_int min2_int max_two min_two
theorem isHyphen_calls (r a n : Int) (w : World) : Calls Try.prog 62 #[.agg #[.int .i32 r, .int .i64 a, .int .i64 n]] w fun e w' => e = .returned (.bool (decide (r = 45))) ∧ Below w.heap.size w w' := by
  go_enter Try.func62, Try.ntmps62
  go_wp2_with fail
  go_ret
  exact ⟨rfl, below_alloc (Below.refl _ _) _⟩
def hasHyphen (s : List S66) : Bool := s.any fun x => decide (x.f0 = 45)
set_option maxHeartbeats 4000000 in
set_option maxRecDepth 100000 in
theorem indexHyphen_calls (s : List S66) (A : Option Addr) (c : Nat) (w : World) (hr : Kd.C k66 w A s.length s) :
    Calls Try.prog 64 #[.slice A s.length c, .func (.func 62) #[] #[]] w fun e w' => ∃ i : Int, e = .returned (.int .i64 i) ∧ decide (0 ≤ i) = hasHyphen s ∧ Below w.heap.size w w' := by
  have HR := Aside0.mk hr
  have hm : s.length ≤ 9223372036854775807 := Kd.C_max hr
  clear hr
  go_enter Try.func64, Try.ntmps64
  go_wp2_with fail
  go_loopg [5, 8] s.length (fun g v5 v8 w' => ∃ j : Nat, v8 = .int .i64 j ∧ Aside0 (g + j = s.length) ∧ Aside0 (hasHyphen (s.take j) = false) ∧ Aside0 (Below w.heap.size w w'))
  case atStart => exact ⟨0, rfl, ⟨rfl⟩, ⟨rfl⟩, ⟨Below.refl _ _⟩⟩
  case round =>
    obtain ⟨j, rfl, HG, HT, HB⟩ := hrel
    by_cases hj : j < s.length
    · obtain ⟨ad, e1, hx0, hx1, hx2⟩ := at_T66 HR.out (j : Int) (by omega) (by omega)
      subst e1
      replace hx0 := (HB.out.cell (World.block_lt_of_cell? w _ hx0)).trans hx0
      replace hx1 := (HB.out.cell (World.block_lt_of_cell? w _ hx1)).trans hx1
      replace hx2 := (HB.out.cell (World.block_lt_of_cell? w _ hx2)).trans hx2
      simp only [Int.toNat_natCast] at hx0 hx1 hx2
      have p1 : (0 : Int) ≤ (j : Int) := by omega
      have q1 : (j : Int) < (s.length : Int) := by omega
      obtain ⟨x, hxe⟩ : ∃ x, rd_T66 s (j : Int) = x := ⟨_, rfl⟩
      rw [hxe] at hx0 hx1 hx2
      have HX := Aside0.mk hxe
      clear hxe
      by_cases hh : x.f0 = 45
      · have hd : decide (x.f0 = 45) = true := decide_eq_true hh
        have HH : Aside0 (hasHyphen s = true) := ⟨by
          rw [hasHyphen, List.any_eq_true]
          have hx : x ∈ s := by rw [← HX.out]; simp [rd_T66, List.getD_eq_getElem?_getD, List.getElem?_eq_getElem hj]
          exact ⟨x, hx, hd⟩⟩
        clear hh
        go_wp2_with (go_at_call 62; refine (isHyphen_calls _ _ _ _).mono ?_; rw [hd]; rintro e w2 ⟨rfl, hb⟩; replace HB := Aside0.mk (below_step HB.out hb); clear hb)
        go_ret
        exact ⟨_, rfl, by rw [HH.out]; exact decide_eq_true (by omega), HB.out⟩
      · have hd : decide (x.f0 = 45) = false := decide_eq_false hh
        clear hh
        go_wp2_with (go_at_call 62; refine (isHyphen_calls _ _ _ _).mono ?_; rw [hd]; rintro e w2 ⟨rfl, hb⟩; replace HB := Aside0.mk (below_step HB.out hb); clear hb)
        go_roundg (s.length - (j + 1))
        case measure => have := HG.out; omega
        case rel =>
          refine ⟨j + 1, by go_num, ⟨by omega⟩, ⟨?_⟩, HB⟩
          have h1 := HT.out
          have h2 : s[j] = x := by rw [← HX.out]; simp [rd_T66, List.getD_eq_getElem?_getD, List.getElem?_eq_getElem hj]
          rw [hasHyphen] at h1 ⊢
          rw [List.take_succ_eq_append_getElem hj, List.any_append, h1, h2]
          simp [hd]
    · have hje : j = s.length := by have := HG.out; omega
      subst hje
      have h1 := HT.out
      rw [List.take_length] at h1
      have HH := Aside0.mk h1
      clear h1 hj HT HG
      go_wp2_with fail
      go_ret
      exact ⟨_, rfl, by rw [HH.out]; rfl, HB.out⟩
set_option maxHeartbeats 4000000 in
set_option maxRecDepth 100000 in
theorem containsHyphen_calls (s : List S66) (A : Option Addr) (c : Nat) (w : World) (hr : Kd.C k66 w A s.length s) :
    Calls Try.prog 61 #[.slice A s.length c, .func (.func 62) #[] #[]] w fun e w' => e = .returned (.bool (hasHyphen s)) ∧ Below w.heap.size w w' := by
  have HR := Aside0.mk hr
  clear hr
  go_enter Try.func61, Try.ntmps61
  go_wp2_with (go_at_call 64; refine (indexHyphen_calls s A c _ HR.out).mono ?_; rintro e w2 ⟨i, rfl, hi, hb⟩; have HB := Aside0.mk hb; have HI := Aside0.mk hi; clear hb hi)
  go_ret
  exact ⟨by rw [← HI.out]; rfl, HB.out⟩
set_option maxHeartbeats 4000000 in
set_option maxRecDepth 100000 in
theorem hyphened_calls (s : List S66) (A : Option Addr) (c : Nat) (w : World) (hr : Kd.C k66 w A s.length s) :
    Calls Try.prog 53 #[.slice A s.length c] w fun e w' => e = .returned (.bool (hasHyphen s)) ∧ Below w.heap.size w w' := by
  have HR := Aside0.mk hr
  clear hr
  go_enter Try.func53, Try.ntmps53
  go_wp2_with (go_at_call 61; refine (containsHyphen_calls s A c _ HR.out).mono ?_; rintro e w2 ⟨rfl, hb⟩; have HB := Aside0.mk hb; clear hb)
  go_ret
  exact ⟨rfl, HB.out⟩
end Go.Proofs.Ytoefjhdcipgacaa.Hy
end
section
namespace Go.Proofs.Ytoefjhdcipgacaa.PA
open Go.RowKit Go.Proofs.YtoefjhdcipgacaaW.PrintWords Go.Proofs.YtoefjhdcipgacaaW.PrintLast Go.Proofs.YtoefjhdcipgacaaW.PrintMore
def pats_hyphened.f (l0 : List (S66)) : Option (Bool) := some (Hy.hasHyphen l0)
theorem pats_hyphened.calls (A0 : Option Addr) (c0 : Nat) (l0 : List (S66)) (r : Bool) (w : World) (hr0 : Kd.C k66 w A0 l0.length l0) (_hc0 : l0.length ≤ c0) (h : pats_hyphened.f l0 = some r) :
    Calls Try.prog 53 #[.slice A0 l0.length c0] w fun e w' => e = .returned (.bool r) ∧ Below w.heap.size w w' := by
  injection h with h
  subst h
  exact Hy.hyphened_calls l0 A0 c0 w hr0
end Go.Proofs.Ytoefjhdcipgacaa.PA
end
section
namespace Go.Proofs.Ytoefjhdcipgacaa.PA
open Go.RowKit Go.Proofs.YtoefjhdcipgacaaW.PrintWords Go.Proofs.YtoefjhdcipgacaaW.PrintLast Go.Proofs.YtoefjhdcipgacaaW.PrintMore
attribute [local go_sem] max2_int min2_int max_two min_two max_three min_three max_four min_four   -- for this text's walks alone
set_option linter.unusedVariables false
set_option linter.unusedSimpArgs false
mutual
def pats_one.l0 : Nat → List (S66) → Bool → Bool → Int → List (S66) → Int → Int → List Int → List Int → Option (List Int × List Int × Bool)
  | 0, _, _, _, _, _, _, _, _, _ => none
  | k + 1, x0, x4, x6, x7, x17, x18, x19, xa0, xa1 => if x19 < x18 then (if 0 ≤ x19 then (if x19 < (x17.length : Int) then (if ((rd_T66 x17 x19).f0) = 65533 then (some (xa0, xa1, false)) else (if ((rd_T66 x17 x19).f0) = 45 then (pats_one.j1 k x0 x4 x6 x7 x19 (xa0.length : Int) x17 x18 x19 true xa0 xa1 ((rd_T66 x17 x19).f0) ((rd_T66 x17 x19).f1) ((rd_T66 x17 x19).f2)) else (if ((rd_T66 x17 x19).f0) ≥ 48 then (pats_one.j1 k x0 x4 x6 x7 x19 (xa0.length : Int) x17 x18 x19 (decide (((rd_T66 x17 x19).f0) ≤ 57)) xa0 xa1 ((rd_T66 x17 x19).f0) ((rd_T66 x17 x19).f1) ((rd_T66 x17 x19).f2)) else (pats_one.j1 k x0 x4 x6 x7 x19 (xa0.length : Int) x17 x18 x19 false xa0 xa1 ((rd_T66 x17 x19).f0) ((rd_T66 x17 x19).f1) ((rd_T66 x17 x19).f2))))) else (none)) else (none)) else (if x7 > 0 then (some (xa0, xa1, decide ((xa0.length : Int) ≤ 24))) else (some (xa0, xa1, false)))
def pats_one.j1 : Nat → List (S66) → Bool → Bool → Int → Int → Int → List (S66) → Int → Int → Bool → List Int → List Int → Int → Int → Int → Option (List Int × List Int × Bool)
  | 0, _, _, _, _, _, _, _, _, _, _, _, _, _, _, _ => none
  | k + 1, x0, x4, x6, x7, x8, x10, x17, x18, x19, x46, xa0, xa1, x233000, x233001, x233002 => if x46 = true then (if x6 = true then (pats_one.j2 k x0 x4 x7 x10 x17 x18 x19 true xa0 xa1 x233000 x233001 x233002) else (if (x4 != (x233000 == 45)) = true then (pats_one.j2 k x0 x4 x7 x10 x17 x18 x19 true xa0 xa1 x233000 x233001 x233002) else (if x4 = true then (if x10 = 0 then (pats_one.j2 k x0 x4 x7 x10 x17 x18 x19 true xa0 xa1 x233000 x233001 x233002) else (pats_one.j2 k x0 x4 x7 x10 x17 x18 x19 (x8 == (wrap64 ((x0.length : Int) - 1))) xa0 xa1 x233000 x233001 x233002)) else (pats_one.j2 k x0 x4 x7 x10 x17 x18 x19 false xa0 xa1 x233000 x233001 x233002)))) else (if x233000 = 46 then (if x4 = true then (some (xa0, xa1, false)) else (if x8 = 0 then ((some (([46] : List Int) : List Int)).bind fun y235 => (if xa0.length + y235.length < 35184372088832 then ((some (([0] : List Int) : List Int)).bind fun y241 => (if xa1.length + y241.length < 140737488355328 then (pats_one.l0 k x0 x4 false x7 x17 x18 (wrap64 (x19 + 1)) (xa0 ++ y235) (xa1 ++ y241)) else (none))) else (none))) else (if (x8 = (wrap64 ((x0.length : Int) - 1))) then ((some (([46] : List Int) : List Int)).bind fun y247 => (if xa0.length + y247.length < 35184372088832 then ((some (([0] : List Int) : List Int)).bind fun y253 => (if xa1.length + y253.length < 140737488355328 then (pats_one.l0 k x0 x4 false x7 x17 x18 (wrap64 (x19 + 1)) (xa0 ++ y247) (xa1 ++ y253)) else (none))) else (none))) else (some (xa0, xa1, false))))) else ((some (([x233000] : List Int) : List Int)).bind fun y259 => (if xa0.length + y259.length < 35184372088832 then ((some (([0] : List Int) : List Int)).bind fun y265 => (if xa1.length + y265.length < 140737488355328 then (pats_one.l0 k x0 x4 false (wrap64 (x7 + 1)) x17 x18 (wrap64 (x19 + 1)) (xa0 ++ y259) (xa1 ++ y265)) else (none))) else (none))))
def pats_one.j2 : Nat → List (S66) → Bool → Int → Int → List (S66) → Int → Int → Bool → List Int → List Int → Int → Int → Int → Option (List Int × List Int × Bool)
  | 0, _, _, _, _, _, _, _, _, _, _, _, _, _ => none
  | k + 1, x0, x4, x7, x10, x17, x18, x19, x81, xa0, xa1, x233000, x233001, x233002 => if x81 = true then (some (xa0, xa1, false)) else (if 0 ≤ x10 then (if x10 < (xa1.length : Int) then ((some (xa1.set (x10 : Int).toNat 1 : List Int)).bind fun y233 => (if x4 = true then (pats_one.l0 k x0 x4 true x7 x17 x18 (wrap64 (x19 + 1)) xa0 y233) else (pats_one.l0 k x0 x4 true x7 x17 x18 (wrap64 (x19 + 1)) xa0 (y233.set (x10 : Int).toNat ((wrap32 (x233000 - 48)) % 256))))) else (none)) else (none))
end
def pats_one.f (k : Nat) (l0 : List (S66)) : Option (List Int × List Int × Bool) := (pats_hyphened.f l0).bind fun t226 => (pats_one.l0 k l0 t226 false 0 l0 (l0.length : Int) 0 ([] : List Int) (([0] : List Int)))
def pats_one.T10 : Bool × List (List Nat × List Nat) := (true, [([], []), ([0], [0]), ([], []), ([2], [2]), ([3], [3]), ([1, 4], [1, 4]), ([], []), ([6], [6]), ([], []), ([7, 8, 5], [7, 8]), ([0, 1, 2, 3, 4, 5, 6, 7], []), ([10, 5, 9, 0, 1, 2, 3, 4, 5, 6, 7], [5, 10]), ([0, 1, 2, 3, 4, 5, 6, 7, 8, 9, 10, 11], []), ([12, 9, 11, 0, 1, 2, 3, 4, 5, 6, 7, 8, 9, 10, 11], [9, 12]), ([13, 0, 1, 2, 3, 4, 5, 6, 7, 8, 9, 10, 11, 12, 13], [])])
def pats_one.B10 : List Nat := [0, 1, 0, 4, 12, 31, 0, 64, 0, 511, 255, 2047, 4095, 8191, 16383]
theorem pats_one.tab10 : rtab .any (opsOf Try.f52 10) = pats_one.T10 := by kernel_rfl
theorem pats_one.bits10 : waitsOk pats_one.T10.2 pats_one.B10 = true := by kernel_rfl
def pats_one.T24 : Bool × List (List Nat × List Nat) := (true, [([], []), ([0], [0]), ([], []), ([1, 2], [1, 2]), ([], []), ([4], [4]), ([], []), ([5, 6, 3], [5, 6]), ([0, 1, 2, 3, 4, 5], []), ([8, 3, 7, 0, 1, 2, 3, 4, 5], [3, 8]), ([0, 1, 2, 3, 4, 5, 6, 7, 8, 9], []), ([10, 7, 9, 0, 1, 2, 3, 4, 5, 6, 7, 8, 9], [7, 10]), ([11, 0, 1, 2, 3, 4, 5, 6, 7, 8, 9, 10, 11], [])])
def pats_one.B24 : List Nat := [0, 1, 0, 7, 0, 16, 0, 127, 63, 511, 1023, 2047, 4095]
theorem pats_one.tab24 : rtab .any (opsOf Try.f52 24) = pats_one.T24 := by kernel_rfl
theorem pats_one.bits24 : waitsOk pats_one.T24.2 pats_one.B24 = true := by kernel_rfl
def pats_one.T26 : Bool × List (List Nat × List Nat) := (true, [([], []), ([], []), ([1], [1]), ([2], [2]), ([3], [3]), ([4, 3], [3, 4]), ([5, 3], [3, 5]), ([6, 3], [3, 6]), ([3, 7], [3, 7]), ([0, 3, 0], [0]), ([8, 9, 0, 1, 2, 3, 4, 5, 6, 7, 8, 9], [8])])
def pats_one.B26 : List Nat := [0, 0, 2, 6, 14, 30, 62, 126, 254, 15, 1023]
theorem pats_one.tab26 : rtab .any (opsOf Try.f52 26) = pats_one.T26 := by kernel_rfl
theorem pats_one.bits26 : waitsOk pats_one.T26.2 pats_one.B26 = true := by kernel_rfl
end Go.Proofs.Ytoefjhdcipgacaa.PA
end
section
namespace Go.Proofs.Ytoefjhdcipgacaa.PA
open Go.RowKit Go.Proofs.YtoefjhdcipgacaaW.PrintWords Go.Proofs.YtoefjhdcipgacaaW.PrintLast Go.Proofs.YtoefjhdcipgacaaW.PrintMore
attribute [local go_sem] max2_int min2_int max_two min_two max_three min_three max_four min_four   -- for this text's walks alone
set_option linter.unusedVariables false
set_option linter.unusedSimpArgs false
set_option maxHeartbeats 8000000 in
set_option maxRecDepth 100000 in
theorem pats_one.calls (k : Nat) (A0 : Option Addr) (c0 : Nat) (l0 : List (S66)) (r1 : List Int) (r2 : List Int) (r3 : Bool) (w : World) (P3 : Kd.C k66 w A0 l0.length l0) (P4 : l0.length ≤ c0) (h : pats_one.f k l0 = some (r1, r2, r3)) :
  Calls Try.prog 52 #[.slice A0 l0.length c0] w fun e w' => ∃ P5 P6 : Value, e = .returned (.tuple #[.agg #[P5, P6], .bool r3]) ∧ Kd.R (Kd.int .i32) 21 w' w.heap.size (fun _ => True) P5 r1 ∧ Kd.R (Kd.int .u8) 5 w' w.heap.size (fun _ => True) P6 r2 ∧ Below w.heap.size w w' := by
 have hu39 := Try.underlying39
 have hu66 := Try.underlying66
 have K9 := Aside0.mk P3
 have HC0 := Aside0.mk P4
 clear P3 P4
 have HB := Aside0.mk (Below.refl w.heap.size w)
 have H : ((pats_hyphened.f l0).bind fun d6 => (pats_one.l0 k l0 d6 false 0 l0 (l0.length : Int) 0 ([] : List Int) (([0] : List Int)))) = some (r1, r2, r3) := h
 clear h
 replace H := Option.bind_eq_some_iff.mp H
 obtain ⟨d6, P7, H⟩ := H
 replace H : (pats_one.l0 k l0 d6 false 0 l0 (l0.length : Int) 0 ([] : List Int) (([0] : List Int))) = some (r1, r2, r3) := H
 have A2 := Aside0.mk P7
 clear P7
 obtain ⟨z1, l6⟩ : ∃ y_ : List Int, y_ = (([0] : List Int)) := ⟨_, rfl⟩
 replace H : (pats_one.l0 k l0 d6 false 0 l0 (l0.length : Int) 0 ([] : List Int) z1) = some (r1, r2, r3) := by first | (rw [l6]; with_reducible exact H) | (have d7 := (Option.bind_some _ _).symm.trans H; rw [l6]; with_reducible exact d7) | (have d7 := (Option.bind_some _ _).symm.trans H; with_reducible exact d7) | with_reducible exact H | (rw [l6]; exact H) | exact H
 have E5 := Aside0.mk l6
 clear l6
 have H' := Aside0.mk H
 clear H
 go_enter Try.func52, Try.ntmps52
 go_wp2_with (first | ((with_reducible refine gate_dst (N := 2) rfl ?_); (try (refine gate_guard (by rfl) ?_; dsimp only)); refine box_event ?hg (N := 2) ?hd (cs := #[.slice none 0 0, .slice none 0 0]) (t := 39) ?hr ?_; (case hd => rfl); (case hg => rfl); (case hr => first | (go_simp; done) | (go_simp; rfl)); intro b6 hg w3 hbox hb; have b0 := Aside0.mk (below_step (HB.out) hb); have b1 := Aside0.mk (hbox); have b2 := Aside0.mk ((by rw [hg]; exact (below_size (HB.out)) : w.heap.size ≤ b6)); have b3 := Aside0.mk ((by rw [hg]; exact (below_size (HB.out)) : w.heap.size ≤ b6)); clear HB; have HB := b0; have a3 := b1; have ag4 := b2; have g1 := b3; clear b0 b1 b2 b3; clear hb hbox hg) | ((with_reducible refine gate_callee (f := 53) rfl ?_); refine goesL_ (some 14) rfl rfl Try.func53 (by kernel_rfl) rfl #[.slice A0 l0.length c0] rfl (by (try simp only [List.map_toArray, List.map_cons, List.map_nil]); first | done | rfl | (simp only [List.length_drop, List.length_take]; rfl)) ?_; (with_reducible refine (pats_hyphened.calls _ _ l0 d6 _ ?side1 ?side2 A2.out).mono ?_); (case side1 => repeat (first | exact (Kd.C_below K9.out HB.out) | (with_reducible refine Kd.C_alloc ?_ _) | (with_reducible refine Kd.C_drewN ?_ _) | (with_reducible refine Kd.C_drew ?_))); (case side2 => exact HC0.out); rintro e w4 ⟨rfl, hb⟩; refine ⟨_, rfl, ?_⟩; have b0 := Aside0.mk (blk_below a3.out hb); have b1 := Aside0.mk (below_step (HB.out) hb); clear a3; clear HB; have a3 := b0; have HB := b1; clear b0 b1; (try clear hb); (try clear hb2); (try clear hk); (try clear hi)) | ((with_reducible refine gate_dst (N := 15) rfl ?_); (try (refine gate_guard (by rfl) ?_; dsimp only)); refine Kd.R_lit (Kd.int .u8) _ 5 ?hg (N := 15) ?hd (xs := ([0] : List Int)) (inner := [.int .u8 0]) (ok := fun _ => True) (okp := fun _ => True) ?hr ?hp (fun _ hk => hk) trivial (Below.refl _ _) (Nat.le_refl _) (by simp) ?_; (case hd => rfl); (case hg => rfl); (case hr => first | (go_simp; done) | (go_simp; rfl)); (case hp => exact (Reps.one (show Kd.M (Kd.int .u8) _ _ _ 0 [.int .u8 0] from rfl) (Reps.none _ _))); intro ao3 w5 C5 hb hg_ hnew_; clear hg_ hnew_; (first | rw [← E5.out] at C5 | (simp only [Int.reduceToNat] at C5; rw [← E5.out] at C5)); have b0 := Aside0.mk (Kd.R_lower C5 (below_size (HB.out))); have b1 := Aside0.mk (blk_below a3.out hb); have b2 := Aside0.mk (below_step (HB.out) hb); clear a3; clear HB; have l7 := b0; have a3 := b1; have HB := b2; clear b0 b1 b2; clear hb C5; obtain ⟨P8, P9, eo7⟩ := Kd.R_slice l7.out; subst eo7) | ((with_reducible refine gate_dst (N := 5) rfl ?_); (try (refine gate_guard (by rfl) ?_; dsimp only)); refine box_event ?hg (N := 5) ?hd (cs := #[.slice none 0 0, .slice none 0 0]) (t := 39) ?hr ?_; (case hd => rfl); (case hg => rfl); (case hr => first | (go_simp; done) | (go_simp; rfl)); intro a9 hg w8 hbox hb; have b0 := Aside0.mk (Kd.R_below (by exact l7.out) hb); have b1 := Aside0.mk (blk_below a3.out hb); have b2 := Aside0.mk (below_step (HB.out) hb); have b3 := Aside0.mk (hbox); have b4 := Aside0.mk ((by rw [hg]; exact (below_size (HB.out)) : w.heap.size ≤ a9)); have b5 := Aside0.mk ((by rw [hg]; exact (below_size (HB.out)) : w.heap.size ≤ a9)); have b8 := Aside0.mk ((by rw [hg]; exact Nat.ne_of_lt (blk_lt a3.out) : b6 ≠ a9)); have d2 := Aside0.mk ((by rw [hg]; exact Nat.ne_of_gt (blk_lt a3.out) : a9 ≠ b6)); clear l7; clear a3; clear HB; have l7 := b0; have a3 := b1; have HB := b2; have a0 := b3; have ag5 := b4; have g2 := b5; have c6 := b8; have c7 := d2; clear b0 b1 b2 b3 b4 b5 b8 d2; clear hb hbox hg; have ao4 := c7.out; have ao5 := c6.out; have p0 : w8.cell? ⟨a9, 0, none⟩ = some (.slice none 0 0) := (blk_cell a0.out 0).trans rfl; have p1 : w8.cell? ⟨a9, 1, none⟩ = some (.slice none 0 0) := (blk_cell a0.out 1).trans rfl; have p3 := blk_frozen a0.out 0; have p4 := blk_frozen a0.out 1))
 go_loopg [6, 7, 19] k (fun kq v6 v7 v19 w' => ∃ (p5 : Bool) (d3 : Int) (a2 : Int) (a5 : List Int) (a7 : List Int) (C6 : Value) (i4 : Value), v6 = .bool p5 ∧ v7 = .int .i64 d3 ∧ v19 = .int .i64 a2 ∧ Aside0 (pats_one.l0 kq l0 d6 p5 d3 l0 (l0.length : Int) a2 a5 a7 = some (r1, r2, r3)) ∧ Aside0 (kq ≤ k) ∧ Aside0 (Kd.R (Kd.int .i32) 21 w' w.heap.size (fun _ => True) C6 a5) ∧ Aside0 (Kd.R (Kd.int .u8) 5 w' w.heap.size (fun _ => True) i4 a7) ∧ Aside0 (w'.heap[b6]? = some (.cells #[(.slice none 0 0), (.slice none 0 0)] 39 (0, 0))) ∧ Aside0 (w'.heap[a9]? = some (.cells #[C6, i4] 39 (0, 0))) ∧ Aside0 (Below w.heap.size w w'))
 case atStart => exact ⟨(false), (0), (0), (([] : List Int)), (z1), (.slice none 0 0), (.slice P8 z1.length P9), (rfl), (rfl), (rfl), H', ⟨Nat.le_refl _⟩, ⟨by first | exact Kd.R_nil _ _ _ _ _ | exact Kd.N_nil _ _ _ _ _ | exact Kd.V_nil _ _ _ _ _ | exact Kd.Q_nil _ _ _ _ _ | exact Kd.S_nil _ _ _ _ _⟩, ⟨by exact Kd.R_mono (Kd.R_far (p := ⟨a9, 1, none⟩) (Kd.R_far (p := ⟨a9, 0, none⟩) (Kd.R_types l7.out a0.out (by decide)) (fun _ hk => hk.2) (.slice none 0 0)) (fun _ hk => hk.2) (.slice P8 z1.length P9)) (fun _ hk => trivial)⟩, ⟨by refine blk_far ?_ c6.out _; refine blk_far ?_ c6.out _; exact a3.out⟩, ⟨by refine blk_put (cs := #[.slice none 0 0, .slice none 0 0]) ?_ 1 _ rfl; refine blk_put (cs := #[.slice none 0 0, .slice none 0 0]) ?_ 0 _ rfl; exact a0.out⟩, ⟨by repeat (first | (with_reducible first | exact HB.out | apply below_alloc | apply pw_below_drewN | apply below_drew1 | refine below_set ?_ g1.out | refine below_set ?_ g2.out) | exact HB.out)⟩⟩
 case round =>
  clear H'
  try clear p2
  try clear c5
  try clear c9
  try clear p0
  try clear p1
  try clear p3
  try clear p4
  obtain ⟨p5, d3, a2, a5, a7, C6, i4, rfl, rfl, rfl, HA, i1, a6, a4, a3, a0, HB⟩ := hrel
  cases gk with
  | zero => exact absurd HA.out (by simp [pats_one.l0])
  | succ k1 =>
   have H := HA.out
   clear HA
   simp only [pats_one.l0] at H
   by_cases p8 : a2 < (l0.length : Int)
   ·rw [if_pos p8] at H
    have z2 : decide (a2 < (l0.length : Int)) = true := decide_eq_true p8
    clear p8
    by_cases t8 : 0 ≤ a2
    ·rw [if_pos t8] at H
     have E6 : decide (0 ≤ a2) = true := decide_eq_true t8
     clear t8
     by_cases t9 : a2 < (l0.length : Int)
     ·rw [if_pos t9] at H
      have E7 : decide (a2 < (l0.length : Int)) = true := decide_eq_true t9
      clear t9
      by_cases l8 : ((rd_T66 l0 a2).f0) = 65533
      ·rw [if_pos l8] at H
       have z3 : (((rd_T66 l0 a2).f0) == 65533) = true := beq_iff_eq.mpr l8
       have z4 : (((rd_T66 l0 a2).f0) != 65533) = false := bne_eq_false_iff_eq.mpr l8
       clear l8
       simp only [Option.some.injEq, Prod.mk.injEq] at H
       obtain ⟨rfl, rfl, rfl⟩ := H
       have j4 : 0 ≤ (a2 : Int) := of_decide_eq_true (by assumption)
       have j5 : a2 < (l0.length : Int) := of_decide_eq_true (by assumption)
       obtain ⟨N0, D3, g3, g4, g5⟩ := at_T66 K9.out a2 j4 j5
       cases D3
       replace g3 := (HB.out.cell (World.block_lt_of_cell? w _ g3)).trans g3
       replace g4 := (HB.out.cell (World.block_lt_of_cell? w _ g4)).trans g4
       replace g5 := (HB.out.cell (World.block_lt_of_cell? w _ g5)).trans g5
       replace j4 := eq_true j4
       replace j5 := eq_true j5
       go_wp2_with (first | ((with_reducible refine gate_dst (N := 9) rfl ?_); (try (refine gate_guard (by rfl) ?_; dsimp only)); refine box_event ?hg (N := 9) ?hd (cs := #[.int .i32 0, .int .i64 0, .int .i64 0]) (t := 66) ?hr ?_; (case hd => rfl); (case hg => rfl); (case hr => first | (go_simp; done) | (go_simp; rfl)); intro a8 hg r7 hbox hb; have b0 := Aside0.mk (Kd.R_below (by exact a6.out) hb); have b1 := Aside0.mk (Kd.R_below (by exact a4.out) hb); have b2 := Aside0.mk (blk_below a3.out hb); have b3 := Aside0.mk (blk_below a0.out hb); have b4 := Aside0.mk (below_step (HB.out) hb); have b5 := Aside0.mk (hbox); have b8 := Aside0.mk ((by rw [hg]; exact (below_size (HB.out)) : w.heap.size ≤ a8)); have d2 := Aside0.mk ((by rw [hg]; exact (below_size (HB.out)) : w.heap.size ≤ a8)); have C7 := Aside0.mk ((by rw [hg]; exact Nat.ne_of_lt (blk_lt a3.out) : b6 ≠ a8)); have C8 := Aside0.mk ((by rw [hg]; exact Nat.ne_of_gt (blk_lt a3.out) : a8 ≠ b6)); have r8 := Aside0.mk ((by rw [hg]; exact Nat.ne_of_lt (blk_lt a0.out) : a9 ≠ a8)); have r9 := Aside0.mk ((by rw [hg]; exact Nat.ne_of_gt (blk_lt a0.out) : a8 ≠ a9)); clear a6; clear a4; clear a3; clear a0; clear HB; have a6 := b0; have a4 := b1; have a3 := b2; have a0 := b3; have HB := b4; have a1 := b5; have N1 := b8; have i0 := d2; have b9 := C7; have e1 := C8; have b7 := r8; have c8 := r9; clear b0 b1 b2 b3 b4 b5 b8 d2 C7 C8 r8 r9; clear hb hbox hg; have ag6 := e1.out; have ag7 := b9.out; have ag8 := c8.out; have ag9 := b7.out; have u0 : r7.cell? ⟨a8, 0, none⟩ = some (.int .i32 0) := (blk_cell a1.out 0).trans rfl; have u1 : r7.cell? ⟨a8, 1, none⟩ = some (.int .i64 0) := (blk_cell a1.out 1).trans rfl; have u2 : r7.cell? ⟨a8, 2, none⟩ = some (.int .i64 0) := (blk_cell a1.out 2).trans rfl; have u3 := blk_frozen a1.out 0; have u4 := blk_frozen a1.out 1; have u5 := blk_frozen a1.out 2; have ah0 := c7.out; have ah1 := c6.out; have u6 : r7.cell? ⟨a9, 0, none⟩ = some (C6) := (blk_cell a0.out 0).trans rfl; have u7 : r7.cell? ⟨a9, 1, none⟩ = some (i4) := (blk_cell a0.out 1).trans rfl; have u9 := blk_frozen a0.out 0; have v0 := blk_frozen a0.out 1; obtain ⟨z5, z6, Q2⟩ := Kd.R_slice a6.out; subst Q2; have v1 : r7.cell? ⟨b6, 0, none⟩ = some (.slice none 0 0) := (blk_cell a3.out 0).trans rfl; have v2 : r7.cell? ⟨b6, 1, none⟩ = some (.slice none 0 0) := (blk_cell a3.out 1).trans rfl; have v3 := blk_frozen a3.out 0; have v4 := blk_frozen a3.out 1; obtain ⟨D4, D5, Q3⟩ := Kd.R_slice a4.out; subst Q3))
       refine bodyPost_ret (results_ct rfl _ _ b6 39 #[.slice z5 a5.length z6, .slice D4 a7.length D5] (0, 0) _ rfl (by refine blk_put (cs := #[.slice z5 a5.length z6, .slice none 0 0]) ?_ 1 _ rfl; refine blk_put (cs := #[.slice none 0 0, .slice none 0 0]) ?_ 0 _ rfl; refine blk_far ?_ b9.out _; refine blk_far ?_ b9.out _; refine blk_far ?_ b9.out _; exact a3.out) Try.underlying39 rfl (by kernel_rfl)) rfl ?_
       exact ⟨_, _, rfl, by exact Kd.R_mono (Kd.R_far (p := ⟨b6, 1, none⟩) (Kd.R_far (p := ⟨b6, 0, none⟩) (Kd.R_far (p := ⟨a8, 2, none⟩) (Kd.R_far (p := ⟨a8, 1, none⟩) (Kd.R_far (p := ⟨a8, 0, none⟩) (Kd.R_types (Kd.R_types a6.out a1.out (by decide)) a3.out (by decide)) (fun _ hk => hk.1.2) (.int .i32 ((rd_T66 l0 a2).f0))) (fun _ hk => hk.1.2) (.int .i64 ((rd_T66 l0 a2).f1))) (fun _ hk => hk.1.2) (.int .i64 ((rd_T66 l0 a2).f2))) (fun _ hk => hk.2) (.slice z5 a5.length z6)) (fun _ hk => hk.2) (.slice D4 a7.length D5)) (fun _ hk => trivial), by exact Kd.R_mono (Kd.R_far (p := ⟨b6, 1, none⟩) (Kd.R_far (p := ⟨b6, 0, none⟩) (Kd.R_far (p := ⟨a8, 2, none⟩) (Kd.R_far (p := ⟨a8, 1, none⟩) (Kd.R_far (p := ⟨a8, 0, none⟩) (Kd.R_types (Kd.R_types a4.out a1.out (by decide)) a3.out (by decide)) (fun _ hk => hk.1.2) (.int .i32 ((rd_T66 l0 a2).f0))) (fun _ hk => hk.1.2) (.int .i64 ((rd_T66 l0 a2).f1))) (fun _ hk => hk.1.2) (.int .i64 ((rd_T66 l0 a2).f2))) (fun _ hk => hk.2) (.slice z5 a5.length z6)) (fun _ hk => hk.2) (.slice D4 a7.length D5)) (fun _ hk => trivial), by repeat (first | (with_reducible first | exact HB.out | apply below_alloc | apply pw_below_drewN | apply below_drew1 | refine below_set ?_ g1.out | refine below_set ?_ g2.out | refine below_set ?_ i0.out) | exact HB.out)⟩
      ·rw [if_neg l8] at H
       have z3 : (((rd_T66 l0 a2).f0) == 65533) = false := beq_eq_false_iff_ne.mpr l8
       have z4 : (((rd_T66 l0 a2).f0) != 65533) = true := bne_iff_ne.mpr l8
       have D6 := Aside0.mk H
       clear H
       have j4 : 0 ≤ (a2 : Int) := of_decide_eq_true (by assumption)
       have j5 : a2 < (l0.length : Int) := of_decide_eq_true (by assumption)
       obtain ⟨N0, D3, g3, g4, g5⟩ := at_T66 K9.out a2 j4 j5
       cases D3
       replace g3 := (HB.out.cell (World.block_lt_of_cell? w _ g3)).trans g3
       replace g4 := (HB.out.cell (World.block_lt_of_cell? w _ g4)).trans g4
       replace g5 := (HB.out.cell (World.block_lt_of_cell? w _ g5)).trans g5
       replace j4 := eq_true j4
       replace j5 := eq_true j5
       go_upto_region 13 with (first | ((with_reducible refine gate_dst (N := 9) rfl ?_); (try (refine gate_guard (by rfl) ?_; dsimp only)); refine box_event ?hg (N := 9) ?hd (cs := #[.int .i32 0, .int .i64 0, .int .i64 0]) (t := 66) ?hr ?_; (case hd => rfl); (case hg => rfl); (case hr => first | (go_simp; done) | (go_simp; rfl)); intro a8 hg i5 hbox hb; have b0 := Aside0.mk (Kd.R_below (by exact a6.out) hb); have b1 := Aside0.mk (Kd.R_below (by exact a4.out) hb); have b2 := Aside0.mk (blk_below a3.out hb); have b3 := Aside0.mk (blk_below a0.out hb); have b4 := Aside0.mk (below_step (HB.out) hb); have b5 := Aside0.mk (hbox); have b8 := Aside0.mk ((by rw [hg]; exact (below_size (HB.out)) : w.heap.size ≤ a8)); have d2 := Aside0.mk ((by rw [hg]; exact (below_size (HB.out)) : w.heap.size ≤ a8)); have C7 := Aside0.mk ((by rw [hg]; exact Nat.ne_of_lt (blk_lt a3.out) : b6 ≠ a8)); have C8 := Aside0.mk ((by rw [hg]; exact Nat.ne_of_gt (blk_lt a3.out) : a8 ≠ b6)); have r8 := Aside0.mk ((by rw [hg]; exact Nat.ne_of_lt (blk_lt a0.out) : a9 ≠ a8)); have r9 := Aside0.mk ((by rw [hg]; exact Nat.ne_of_gt (blk_lt a0.out) : a8 ≠ a9)); clear a6; clear a4; clear a3; clear a0; clear HB; have a6 := b0; have a4 := b1; have a3 := b2; have a0 := b3; have HB := b4; have a1 := b5; have N1 := b8; have i0 := d2; have b9 := C7; have e1 := C8; have b7 := r8; have c8 := r9; clear b0 b1 b2 b3 b4 b5 b8 d2 C7 C8 r8 r9; clear hb hbox hg; have ah2 := e1.out; have ah3 := b9.out; have ah4 := c8.out; have ah5 := b7.out; have v5 : i5.cell? ⟨a8, 0, none⟩ = some (.int .i32 0) := (blk_cell a1.out 0).trans rfl; have v8 : i5.cell? ⟨a8, 1, none⟩ = some (.int .i64 0) := (blk_cell a1.out 1).trans rfl; have v9 : i5.cell? ⟨a8, 2, none⟩ = some (.int .i64 0) := (blk_cell a1.out 2).trans rfl; have w2 := blk_frozen a1.out 0; have w6 := blk_frozen a1.out 1; have w7 := blk_frozen a1.out 2; have ah6 := c7.out; have ah7 := c6.out; have w9 : i5.cell? ⟨a9, 0, none⟩ = some (C6) := (blk_cell a0.out 0).trans rfl; have x0 : i5.cell? ⟨a9, 1, none⟩ = some (i4) := (blk_cell a0.out 1).trans rfl; have x1 := blk_frozen a0.out 0; have x2 := blk_frozen a0.out 1; obtain ⟨d0, d1, Q4⟩ := Kd.R_slice a6.out; subst Q4))
       go_cut [46] (fun v46 wc => ∃ (kq : Nat) (l9 : Bool), v46 = .bool l9 ∧ Aside0 (pats_one.j1 kq l0 d6 p5 d3 a2 (a5.length : Int) l0 (l0.length : Int) a2 l9 a5 a7 ((rd_T66 l0 a2).f0) ((rd_T66 l0 a2).f1) ((rd_T66 l0 a2).f2) = some (r1, r2, r3)) ∧ Aside0 (kq ≤ k1) ∧ Aside0 (Kd.R (Kd.int .i32) 21 wc w.heap.size (fun _ => True) (.slice d0 a5.length d1) a5) ∧ Aside0 (Kd.R (Kd.int .u8) 5 wc w.heap.size (fun _ => True) i4 a7) ∧ Aside0 (wc.heap[b6]? = some (.cells #[(.slice none 0 0), (.slice none 0 0)] 39 (0, 0))) ∧ Aside0 (wc.heap[a9]? = some (.cells #[(.slice d0 a5.length d1), i4] 39 (0, 0))) ∧ Aside0 (wc.heap[a8]? = some (.cells #[.int .i32 ((rd_T66 l0 a2).f0), .int .i64 ((rd_T66 l0 a2).f1), .int .i64 ((rd_T66 l0 a2).f2)] 66 (0, 0))) ∧ Aside0 (Below w.heap.size w wc))
       case first =>
        have H := D6.out
        clear D6
        by_cases m0 : ((rd_T66 l0 a2).f0) = 45
        ·rw [if_pos m0] at H
         have j6 : (((rd_T66 l0 a2).f0) == 45) = true := beq_iff_eq.mpr m0
         have z7 : (((rd_T66 l0 a2).f0) != 45) = false := bne_eq_false_iff_eq.mpr m0
         clear m0
         (first | rw [j6] | (simp only [i64_w, i32_w]; rw [j6]) | skip)
         have H' := Aside0.mk H
         clear H
         have ah8 := e1.out
         have ah9 := b9.out
         have ai0 := c8.out
         have ai1 := b7.out
         have x3 : i5.cell? ⟨a8, 0, none⟩ = some (.int .i32 0) := (blk_cell a1.out 0).trans rfl
         have x4 : i5.cell? ⟨a8, 1, none⟩ = some (.int .i64 0) := (blk_cell a1.out 1).trans rfl
         have x5 : i5.cell? ⟨a8, 2, none⟩ = some (.int .i64 0) := (blk_cell a1.out 2).trans rfl
         have x6 := blk_frozen a1.out 0
         have x7 := blk_frozen a1.out 1
         have x8 := blk_frozen a1.out 2
         go_wp2
         go_meet
         case rel => exact ⟨_, (true), (rfl), H', ⟨by have := i1.out; first | omega | exact Nat.le_refl _⟩, ⟨by exact Kd.R_mono (Kd.R_far (p := ⟨a8, 2, none⟩) (Kd.R_far (p := ⟨a8, 1, none⟩) (Kd.R_far (p := ⟨a8, 0, none⟩) (Kd.R_types a6.out a1.out (by decide)) (fun _ hk => hk.2) (.int .i32 ((rd_T66 l0 a2).f0))) (fun _ hk => hk.2) (.int .i64 ((rd_T66 l0 a2).f1))) (fun _ hk => hk.2) (.int .i64 ((rd_T66 l0 a2).f2))) (fun _ hk => trivial)⟩, ⟨by exact Kd.R_mono (Kd.R_far (p := ⟨a8, 2, none⟩) (Kd.R_far (p := ⟨a8, 1, none⟩) (Kd.R_far (p := ⟨a8, 0, none⟩) (Kd.R_types a4.out a1.out (by decide)) (fun _ hk => hk.2) (.int .i32 ((rd_T66 l0 a2).f0))) (fun _ hk => hk.2) (.int .i64 ((rd_T66 l0 a2).f1))) (fun _ hk => hk.2) (.int .i64 ((rd_T66 l0 a2).f2))) (fun _ hk => trivial)⟩, ⟨by refine blk_far ?_ b9.out _; refine blk_far ?_ b9.out _; refine blk_far ?_ b9.out _; exact a3.out⟩, ⟨by refine blk_far ?_ b7.out _; refine blk_far ?_ b7.out _; refine blk_far ?_ b7.out _; exact a0.out⟩, ⟨by refine blk_put (cs := #[.int .i32 ((rd_T66 l0 a2).f0), .int .i64 ((rd_T66 l0 a2).f1), .int .i64 0]) ?_ 2 _ rfl; refine blk_put (cs := #[.int .i32 ((rd_T66 l0 a2).f0), .int .i64 0, .int .i64 0]) ?_ 1 _ rfl; refine blk_put (cs := #[.int .i32 0, .int .i64 0, .int .i64 0]) ?_ 0 _ rfl; exact a1.out⟩, ⟨by repeat (first | (with_reducible first | exact HB.out | apply below_alloc | apply pw_below_drewN | apply below_drew1 | refine below_set ?_ g1.out | refine below_set ?_ g2.out | refine below_set ?_ i0.out) | exact HB.out)⟩⟩
        ·rw [if_neg m0] at H
         have j6 : (((rd_T66 l0 a2).f0) == 45) = false := beq_eq_false_iff_ne.mpr m0
         have z7 : (((rd_T66 l0 a2).f0) != 45) = true := bne_iff_ne.mpr m0
         (first | rw [j6] | (simp only [i64_w, i32_w]; rw [j6]) | skip)
         by_cases p9 : ((rd_T66 l0 a2).f0) ≥ 48
         ·rw [if_pos p9] at H
          have z8 : decide (48 ≤ ((rd_T66 l0 a2).f0)) = true := decide_eq_true p9
          clear p9
          have H' := Aside0.mk H
          clear H
          have ai2 := e1.out
          have ai3 := b9.out
          have ai4 := c8.out
          have ai5 := b7.out
          have x9 : i5.cell? ⟨a8, 0, none⟩ = some (.int .i32 0) := (blk_cell a1.out 0).trans rfl
          have y0 : i5.cell? ⟨a8, 1, none⟩ = some (.int .i64 0) := (blk_cell a1.out 1).trans rfl
          have y1 : i5.cell? ⟨a8, 2, none⟩ = some (.int .i64 0) := (blk_cell a1.out 2).trans rfl
          have y2 := blk_frozen a1.out 0
          have y3 := blk_frozen a1.out 1
          have y4 := blk_frozen a1.out 2
          go_wp2
          go_meet
          case rel => exact ⟨_, (decide (((rd_T66 l0 a2).f0) ≤ 57)), (rfl), H', ⟨by have := i1.out; first | omega | exact Nat.le_refl _⟩, ⟨by exact Kd.R_mono (Kd.R_far (p := ⟨a8, 2, none⟩) (Kd.R_far (p := ⟨a8, 1, none⟩) (Kd.R_far (p := ⟨a8, 0, none⟩) (Kd.R_types a6.out a1.out (by decide)) (fun _ hk => hk.2) (.int .i32 ((rd_T66 l0 a2).f0))) (fun _ hk => hk.2) (.int .i64 ((rd_T66 l0 a2).f1))) (fun _ hk => hk.2) (.int .i64 ((rd_T66 l0 a2).f2))) (fun _ hk => trivial)⟩, ⟨by exact Kd.R_mono (Kd.R_far (p := ⟨a8, 2, none⟩) (Kd.R_far (p := ⟨a8, 1, none⟩) (Kd.R_far (p := ⟨a8, 0, none⟩) (Kd.R_types a4.out a1.out (by decide)) (fun _ hk => hk.2) (.int .i32 ((rd_T66 l0 a2).f0))) (fun _ hk => hk.2) (.int .i64 ((rd_T66 l0 a2).f1))) (fun _ hk => hk.2) (.int .i64 ((rd_T66 l0 a2).f2))) (fun _ hk => trivial)⟩, ⟨by refine blk_far ?_ b9.out _; refine blk_far ?_ b9.out _; refine blk_far ?_ b9.out _; exact a3.out⟩, ⟨by refine blk_far ?_ b7.out _; refine blk_far ?_ b7.out _; refine blk_far ?_ b7.out _; exact a0.out⟩, ⟨by refine blk_put (cs := #[.int .i32 ((rd_T66 l0 a2).f0), .int .i64 ((rd_T66 l0 a2).f1), .int .i64 0]) ?_ 2 _ rfl; refine blk_put (cs := #[.int .i32 ((rd_T66 l0 a2).f0), .int .i64 0, .int .i64 0]) ?_ 1 _ rfl; refine blk_put (cs := #[.int .i32 0, .int .i64 0, .int .i64 0]) ?_ 0 _ rfl; exact a1.out⟩, ⟨by repeat (first | (with_reducible first | exact HB.out | apply below_alloc | apply pw_below_drewN | apply below_drew1 | refine below_set ?_ g1.out | refine below_set ?_ g2.out | refine below_set ?_ i0.out) | exact HB.out)⟩⟩
         ·rw [if_neg p9] at H
          have z8 : decide (48 ≤ ((rd_T66 l0 a2).f0)) = false := decide_eq_false p9
          clear p9
          have H' := Aside0.mk H
          clear H
          have ai6 := e1.out
          have ai7 := b9.out
          have ai8 := c8.out
          have ai9 := b7.out
          have y5 : i5.cell? ⟨a8, 0, none⟩ = some (.int .i32 0) := (blk_cell a1.out 0).trans rfl
          have y6 : i5.cell? ⟨a8, 1, none⟩ = some (.int .i64 0) := (blk_cell a1.out 1).trans rfl
          have y7 : i5.cell? ⟨a8, 2, none⟩ = some (.int .i64 0) := (blk_cell a1.out 2).trans rfl
          have y8 := blk_frozen a1.out 0
          have y9 := blk_frozen a1.out 1
          have z0 := blk_frozen a1.out 2
          go_wp2
          go_meet
          case rel => exact ⟨_, (false), (rfl), H', ⟨by have := i1.out; first | omega | exact Nat.le_refl _⟩, ⟨by exact Kd.R_mono (Kd.R_far (p := ⟨a8, 2, none⟩) (Kd.R_far (p := ⟨a8, 1, none⟩) (Kd.R_far (p := ⟨a8, 0, none⟩) (Kd.R_types a6.out a1.out (by decide)) (fun _ hk => hk.2) (.int .i32 ((rd_T66 l0 a2).f0))) (fun _ hk => hk.2) (.int .i64 ((rd_T66 l0 a2).f1))) (fun _ hk => hk.2) (.int .i64 ((rd_T66 l0 a2).f2))) (fun _ hk => trivial)⟩, ⟨by exact Kd.R_mono (Kd.R_far (p := ⟨a8, 2, none⟩) (Kd.R_far (p := ⟨a8, 1, none⟩) (Kd.R_far (p := ⟨a8, 0, none⟩) (Kd.R_types a4.out a1.out (by decide)) (fun _ hk => hk.2) (.int .i32 ((rd_T66 l0 a2).f0))) (fun _ hk => hk.2) (.int .i64 ((rd_T66 l0 a2).f1))) (fun _ hk => hk.2) (.int .i64 ((rd_T66 l0 a2).f2))) (fun _ hk => trivial)⟩, ⟨by refine blk_far ?_ b9.out _; refine blk_far ?_ b9.out _; refine blk_far ?_ b9.out _; exact a3.out⟩, ⟨by refine blk_far ?_ b7.out _; refine blk_far ?_ b7.out _; refine blk_far ?_ b7.out _; exact a0.out⟩, ⟨by refine blk_put (cs := #[.int .i32 ((rd_T66 l0 a2).f0), .int .i64 ((rd_T66 l0 a2).f1), .int .i64 0]) ?_ 2 _ rfl; refine blk_put (cs := #[.int .i32 ((rd_T66 l0 a2).f0), .int .i64 0, .int .i64 0]) ?_ 1 _ rfl; refine blk_put (cs := #[.int .i32 0, .int .i64 0, .int .i64 0]) ?_ 0 _ rfl; exact a1.out⟩, ⟨by repeat (first | (with_reducible first | exact HB.out | apply below_alloc | apply pw_below_drewN | apply below_drew1 | refine below_set ?_ g1.out | refine below_set ?_ g2.out | refine below_set ?_ i0.out) | exact HB.out)⟩⟩
       case rest =>
        clear D6
        try clear c1
        try clear c2
        try clear p2
        try clear q2
        try clear hx2
        try clear c3
        try clear c4
        try clear c5
        try clear c9
        try clear p8
        try clear z2
        try clear t8
        try clear E6
        try clear t9
        try clear E7
        try clear l8
        try clear z3
        try clear z4
        try clear c16
        try clear c17
        try clear c19
        try clear Q0
        try clear Q1
        try clear Q5
        try clear c26
        try clear c27
        try clear c29
        try clear m0
        try clear j6
        try clear z7
        try clear c33
        try clear c34
        try clear p9
        try clear z8
        try clear c37
        try clear c38
        try clear c40
        try clear c41
        try clear p0
        try clear p1
        try clear u0
        try clear u1
        try clear u2
        try clear u6
        try clear u7
        try clear v1
        try clear v2
        try clear v5
        try clear v8
        try clear v9
        try clear w9
        try clear x0
        try clear x3
        try clear x4
        try clear x5
        try clear x9
        try clear y0
        try clear y1
        try clear y5
        try clear y6
        try clear y7
        try clear p3
        try clear p4
        try clear u3
        try clear u4
        try clear u5
        try clear u9
        try clear v0
        try clear v3
        try clear v4
        try clear w2
        try clear w6
        try clear w7
        try clear x1
        try clear x2
        try clear x6
        try clear x7
        try clear x8
        try clear y2
        try clear y3
        try clear y4
        try clear y8
        try clear y9
        try clear z0
        try clear g3
        try clear g4
        try clear g5
        try clear p2
        try clear j4
        try clear j5
        obtain ⟨kq, l9, rfl, HA, h9, a6, a4, a3, a0, a1, HB⟩ := hcut
        cases kq with
        | zero => exact absurd HA.out (by simp [pats_one.j1])
        | succ e2 =>
         have H := HA.out
         clear HA
         simp only [pats_one.j1] at H
         by_cases C9 : l9 = true
         ·subst C9
          have H1 : (if p5 = true then (pats_one.j2 e2 l0 d6 d3 (a5.length : Int) l0 (l0.length : Int) a2 true a5 a7 ((rd_T66 l0 a2).f0) ((rd_T66 l0 a2).f1) ((rd_T66 l0 a2).f2)) else (if (d6 != (((rd_T66 l0 a2).f0) == 45)) = true then (pats_one.j2 e2 l0 d6 d3 (a5.length : Int) l0 (l0.length : Int) a2 true a5 a7 ((rd_T66 l0 a2).f0) ((rd_T66 l0 a2).f1) ((rd_T66 l0 a2).f2)) else (if d6 = true then (if (a5.length : Int) = 0 then (pats_one.j2 e2 l0 d6 d3 (a5.length : Int) l0 (l0.length : Int) a2 true a5 a7 ((rd_T66 l0 a2).f0) ((rd_T66 l0 a2).f1) ((rd_T66 l0 a2).f2)) else (pats_one.j2 e2 l0 d6 d3 (a5.length : Int) l0 (l0.length : Int) a2 (a2 == (wrap64 ((l0.length : Int) - 1))) a5 a7 ((rd_T66 l0 a2).f0) ((rd_T66 l0 a2).f1) ((rd_T66 l0 a2).f2))) else (pats_one.j2 e2 l0 d6 d3 (a5.length : Int) l0 (l0.length : Int) a2 false a5 a7 ((rd_T66 l0 a2).f0) ((rd_T66 l0 a2).f1) ((rd_T66 l0 a2).f2))))) = some (r1, r2, r3) := by rw [if_pos rfl] at H; exact H
          clear H
          have H := H1
          clear H1
          have D7 := Aside0.mk H
          clear H
          go_upto_region 14 with (fail)
          go_cut [81] (fun v81 wc => ∃ (kq : Nat) (m1 : Bool), v81 = .bool m1 ∧ Aside0 (pats_one.j2 kq l0 d6 d3 (a5.length : Int) l0 (l0.length : Int) a2 m1 a5 a7 ((rd_T66 l0 a2).f0) ((rd_T66 l0 a2).f1) ((rd_T66 l0 a2).f2) = some (r1, r2, r3)) ∧ Aside0 (kq ≤ e2) ∧ Aside0 (Kd.R (Kd.int .i32) 21 wc w.heap.size (fun _ => True) (.slice d0 a5.length d1) a5) ∧ Aside0 (Kd.R (Kd.int .u8) 5 wc w.heap.size (fun _ => True) i4 a7) ∧ Aside0 (wc.heap[b6]? = some (.cells #[(.slice none 0 0), (.slice none 0 0)] 39 (0, 0))) ∧ Aside0 (wc.heap[a9]? = some (.cells #[(.slice d0 a5.length d1), i4] 39 (0, 0))) ∧ Aside0 (wc.heap[a8]? = some (.cells #[.int .i32 ((rd_T66 l0 a2).f0), .int .i64 ((rd_T66 l0 a2).f1), .int .i64 ((rd_T66 l0 a2).f2)] 66 (0, 0))) ∧ Aside0 (Below w.heap.size w wc))
          case first =>
           have H := D7.out
           clear D7
           by_cases D0 : p5 = true
           ·subst D0
            have H1 : (pats_one.j2 e2 l0 d6 d3 (a5.length : Int) l0 (l0.length : Int) a2 true a5 a7 ((rd_T66 l0 a2).f0) ((rd_T66 l0 a2).f1) ((rd_T66 l0 a2).f2)) = some (r1, r2, r3) := by rw [if_pos rfl] at H; exact H
            clear H
            have H := H1
            clear H1
            have H' := Aside0.mk H
            clear H
            go_wp2
            go_meet
            case rel => exact ⟨_, (true), (rfl), H', ⟨by have := i1.out; have := h9.out; first | omega | exact Nat.le_refl _⟩, ⟨by exact a6.out⟩, ⟨by exact a4.out⟩, ⟨by exact a3.out⟩, ⟨by exact a0.out⟩, ⟨by exact a1.out⟩, ⟨HB.out⟩⟩
           ·replace D0 := Bool.eq_false_iff.mpr D0
            subst D0
            have H1 : (if (d6 != (((rd_T66 l0 a2).f0) == 45)) = true then (pats_one.j2 e2 l0 d6 d3 (a5.length : Int) l0 (l0.length : Int) a2 true a5 a7 ((rd_T66 l0 a2).f0) ((rd_T66 l0 a2).f1) ((rd_T66 l0 a2).f2)) else (if d6 = true then (if (a5.length : Int) = 0 then (pats_one.j2 e2 l0 d6 d3 (a5.length : Int) l0 (l0.length : Int) a2 true a5 a7 ((rd_T66 l0 a2).f0) ((rd_T66 l0 a2).f1) ((rd_T66 l0 a2).f2)) else (pats_one.j2 e2 l0 d6 d3 (a5.length : Int) l0 (l0.length : Int) a2 (a2 == (wrap64 ((l0.length : Int) - 1))) a5 a7 ((rd_T66 l0 a2).f0) ((rd_T66 l0 a2).f1) ((rd_T66 l0 a2).f2))) else (pats_one.j2 e2 l0 d6 d3 (a5.length : Int) l0 (l0.length : Int) a2 false a5 a7 ((rd_T66 l0 a2).f0) ((rd_T66 l0 a2).f1) ((rd_T66 l0 a2).f2)))) = some (r1, r2, r3) := by rw [if_neg (show ¬ (false = true) by decide)] at H; exact H
            clear H
            have H := H1
            clear H1
            by_cases j8 : (d6 != (((rd_T66 l0 a2).f0) == 45)) = true
            ·rw [if_pos j8] at H
             have k6 : (d6 != (((rd_T66 l0 a2).f0) == 45)) = true := j8
             (try (have E8 : decide (d6 = (((rd_T66 l0 a2).f0) == 45)) = false := by simpa using j8))
             (try (have E9 : (d6 == (((rd_T66 l0 a2).f0) == 45)) = false := by simpa using j8))
             (try (have aj0 : ¬ (d6 = (((rd_T66 l0 a2).f0) == 45)) := by simpa using j8))
             clear j8
             (first | rw [k6] | (simp only [i64_w, i32_w]; rw [k6]) | skip)
             have H' := Aside0.mk H
             clear H
             have aj1 := e1.out
             have aj2 := b9.out
             have aj3 := c8.out
             have aj4 := b7.out
             have I5 : wc.cell? ⟨a8, 0, none⟩ = some (.int .i32 ((rd_T66 l0 a2).f0)) := (blk_cell a1.out 0).trans rfl
             have I6 : wc.cell? ⟨a8, 1, none⟩ = some (.int .i64 ((rd_T66 l0 a2).f1)) := (blk_cell a1.out 1).trans rfl
             have I7 : wc.cell? ⟨a8, 2, none⟩ = some (.int .i64 ((rd_T66 l0 a2).f2)) := (blk_cell a1.out 2).trans rfl
             have I8 := blk_frozen a1.out 0
             have I9 := blk_frozen a1.out 1
             have J0 := blk_frozen a1.out 2
             go_wp2
             go_meet
             case rel => exact ⟨_, (true), (rfl), H', ⟨by have := i1.out; have := h9.out; first | omega | exact Nat.le_refl _⟩, ⟨by exact a6.out⟩, ⟨by exact a4.out⟩, ⟨by exact a3.out⟩, ⟨by exact a0.out⟩, ⟨by exact a1.out⟩, ⟨HB.out⟩⟩
            ·rw [if_neg j8] at H
             have k6 : (d6 != (((rd_T66 l0 a2).f0) == 45)) = false := by simpa using j8
             (try (have E8 : decide (d6 = (((rd_T66 l0 a2).f0) == 45)) = true := by simpa using j8))
             (try (have E9 : (d6 == (((rd_T66 l0 a2).f0) == 45)) = true := by simpa using j8))
             clear j8
             (first | rw [k6] | (simp only [i64_w, i32_w]; rw [k6]) | skip)
             by_cases D1 : d6 = true
             ·subst D1
              have H1 : (if (a5.length : Int) = 0 then (pats_one.j2 e2 l0 true d3 (a5.length : Int) l0 (l0.length : Int) a2 true a5 a7 ((rd_T66 l0 a2).f0) ((rd_T66 l0 a2).f1) ((rd_T66 l0 a2).f2)) else (pats_one.j2 e2 l0 true d3 (a5.length : Int) l0 (l0.length : Int) a2 (a2 == (wrap64 ((l0.length : Int) - 1))) a5 a7 ((rd_T66 l0 a2).f0) ((rd_T66 l0 a2).f1) ((rd_T66 l0 a2).f2))) = some (r1, r2, r3) := by rw [if_pos rfl] at H; exact H
              clear H
              have H := H1
              clear H1
              by_cases m2 : (a5.length : Int) = 0
              ·rw [if_pos m2] at H
               have F0 : ((a5.length : Int) == 0) = true := beq_iff_eq.mpr m2
               have F1 : ((a5.length : Int) != 0) = false := bne_eq_false_iff_eq.mpr m2
               clear m2
               have H' := Aside0.mk H
               clear H
               have aj5 := e1.out
               have aj6 := b9.out
               have aj7 := c8.out
               have aj8 := b7.out
               have J1 : wc.cell? ⟨a8, 0, none⟩ = some (.int .i32 ((rd_T66 l0 a2).f0)) := (blk_cell a1.out 0).trans rfl
               have J2 : wc.cell? ⟨a8, 1, none⟩ = some (.int .i64 ((rd_T66 l0 a2).f1)) := (blk_cell a1.out 1).trans rfl
               have J3 : wc.cell? ⟨a8, 2, none⟩ = some (.int .i64 ((rd_T66 l0 a2).f2)) := (blk_cell a1.out 2).trans rfl
               have J4 := blk_frozen a1.out 0
               have J5 := blk_frozen a1.out 1
               have J6 := blk_frozen a1.out 2
               go_wp2
               go_meet
               case rel => exact ⟨_, (true), (rfl), H', ⟨by have := i1.out; have := h9.out; first | omega | exact Nat.le_refl _⟩, ⟨by exact a6.out⟩, ⟨by exact a4.out⟩, ⟨by exact a3.out⟩, ⟨by exact a0.out⟩, ⟨by exact a1.out⟩, ⟨HB.out⟩⟩
              ·rw [if_neg m2] at H
               have F0 : ((a5.length : Int) == 0) = false := beq_eq_false_iff_ne.mpr m2
               have F1 : ((a5.length : Int) != 0) = true := bne_iff_ne.mpr m2
               have N2 : ¬ (a5 = []) := fun h_ => m2 (by rw [h_]; rfl)
               have H' := Aside0.mk H
               clear H
               have aj9 := e1.out
               have ak0 := b9.out
               have ak1 := c8.out
               have ak2 := b7.out
               have J7 : wc.cell? ⟨a8, 0, none⟩ = some (.int .i32 ((rd_T66 l0 a2).f0)) := (blk_cell a1.out 0).trans rfl
               have J8 : wc.cell? ⟨a8, 1, none⟩ = some (.int .i64 ((rd_T66 l0 a2).f1)) := (blk_cell a1.out 1).trans rfl
               have J9 : wc.cell? ⟨a8, 2, none⟩ = some (.int .i64 ((rd_T66 l0 a2).f2)) := (blk_cell a1.out 2).trans rfl
               have K0 := blk_frozen a1.out 0
               have K1 := blk_frozen a1.out 1
               have K2 := blk_frozen a1.out 2
               go_wp2
               go_meet
               case rel => exact ⟨_, ((a2 == (wrap64 ((l0.length : Int) - 1)))), (rfl), H', ⟨by have := i1.out; have := h9.out; first | omega | exact Nat.le_refl _⟩, ⟨by exact a6.out⟩, ⟨by exact a4.out⟩, ⟨by exact a3.out⟩, ⟨by exact a0.out⟩, ⟨by exact a1.out⟩, ⟨HB.out⟩⟩
             ·replace D1 := Bool.eq_false_iff.mpr D1
              subst D1
              have H1 : (pats_one.j2 e2 l0 false d3 (a5.length : Int) l0 (l0.length : Int) a2 false a5 a7 ((rd_T66 l0 a2).f0) ((rd_T66 l0 a2).f1) ((rd_T66 l0 a2).f2)) = some (r1, r2, r3) := by rw [if_neg (show ¬ (false = true) by decide)] at H; exact H
              clear H
              have H := H1
              clear H1
              have H' := Aside0.mk H
              clear H
              have ak3 := e1.out
              have ak4 := b9.out
              have ak5 := c8.out
              have ak6 := b7.out
              have K3 : wc.cell? ⟨a8, 0, none⟩ = some (.int .i32 ((rd_T66 l0 a2).f0)) := (blk_cell a1.out 0).trans rfl
              have K4 : wc.cell? ⟨a8, 1, none⟩ = some (.int .i64 ((rd_T66 l0 a2).f1)) := (blk_cell a1.out 1).trans rfl
              have K5 : wc.cell? ⟨a8, 2, none⟩ = some (.int .i64 ((rd_T66 l0 a2).f2)) := (blk_cell a1.out 2).trans rfl
              have K6 := blk_frozen a1.out 0
              have K7 := blk_frozen a1.out 1
              have K8 := blk_frozen a1.out 2
              go_wp2
              go_meet
              case rel => exact ⟨_, (false), (rfl), H', ⟨by have := i1.out; have := h9.out; first | omega | exact Nat.le_refl _⟩, ⟨by exact a6.out⟩, ⟨by exact a4.out⟩, ⟨by exact a3.out⟩, ⟨by exact a0.out⟩, ⟨by exact a1.out⟩, ⟨HB.out⟩⟩
          case rest =>
           clear D7
           try clear c1
           try clear c2
           try clear p2
           try clear q2
           try clear hx2
           try clear c3
           try clear c4
           try clear c5
           try clear p6
           try clear c9
           try clear p8
           try clear z2
           try clear t8
           try clear E6
           try clear t9
           try clear E7
           try clear l8
           try clear z3
           try clear z4
           try clear c16
           try clear c17
           try clear c19
           try clear Q0
           try clear Q1
           try clear Q5
           try clear c26
           try clear c27
           try clear c29
           try clear m0
           try clear j6
           try clear z7
           try clear c33
           try clear c34
           try clear p9
           try clear z8
           try clear c37
           try clear c38
           try clear c40
           try clear c41
           try clear C9
           try clear D0
           try clear j8
           try clear k6
           try clear E8
           try clear E9
           try clear c47
           try clear c48
           try clear D1
           try clear m2
           try clear F0
           try clear F1
           try clear N2
           try clear c52
           try clear c53
           try clear c55
           try clear c56
           try clear c58
           try clear c59
           try clear p0
           try clear p1
           try clear u0
           try clear u1
           try clear u2
           try clear u6
           try clear u7
           try clear v1
           try clear v2
           try clear v5
           try clear v8
           try clear v9
           try clear w9
           try clear x0
           try clear x3
           try clear x4
           try clear x5
           try clear x9
           try clear y0
           try clear y1
           try clear y5
           try clear y6
           try clear y7
           try clear I5
           try clear I6
           try clear I7
           try clear J1
           try clear J2
           try clear J3
           try clear J7
           try clear J8
           try clear J9
           try clear K3
           try clear K4
           try clear K5
           try clear p3
           try clear p4
           try clear u3
           try clear u4
           try clear u5
           try clear u9
           try clear v0
           try clear v3
           try clear v4
           try clear w2
           try clear w6
           try clear w7
           try clear x1
           try clear x2
           try clear x6
           try clear x7
           try clear x8
           try clear y2
           try clear y3
           try clear y4
           try clear y8
           try clear y9
           try clear z0
           try clear I8
           try clear I9
           try clear J0
           try clear J4
           try clear J5
           try clear J6
           try clear K0
           try clear K1
           try clear K2
           try clear K6
           try clear K7
           try clear K8
           try clear g3
           try clear g4
           try clear g5
           try clear p2
           try clear Q0
           try clear j4
           try clear q2
           try clear Q1
           try clear j5
           obtain ⟨kq, m1, rfl, HA, z9, a6, a4, a3, a0, a1, HB⟩ := hcut
           cases kq with
           | zero => exact absurd HA.out (by simp [pats_one.j2])
           | succ j7 =>
            have H := HA.out
            clear HA
            simp only [pats_one.j2] at H
            by_cases F2 : m1 = true
            ·subst F2
             have H1 : (some (a5, a7, false)) = some (r1, r2, r3) := by rw [if_pos rfl] at H; exact H
             clear H
             have H := H1
             clear H1
             simp only [Option.some.injEq, Prod.mk.injEq] at H
             obtain ⟨rfl, rfl, rfl⟩ := H
             have ak7 := c7.out
             have ak8 := c6.out
             have ak9 := b7.out
             have al0 := c8.out
             have X7 : wc.cell? ⟨a9, 0, none⟩ = some (.slice d0 a5.length d1) := (blk_cell a0.out 0).trans rfl
             have X8 : wc.cell? ⟨a9, 1, none⟩ = some (i4) := (blk_cell a0.out 1).trans rfl
             have X9 := blk_frozen a0.out 0
             have Y0 := blk_frozen a0.out 1
             have al1 := b9.out
             have al2 := e1.out
             have Y1 : wc.cell? ⟨b6, 0, none⟩ = some (.slice none 0 0) := (blk_cell a3.out 0).trans rfl
             have Y2 : wc.cell? ⟨b6, 1, none⟩ = some (.slice none 0 0) := (blk_cell a3.out 1).trans rfl
             have Y3 := blk_frozen a3.out 0
             have Y4 := blk_frozen a3.out 1
             obtain ⟨D8, D9, Q6⟩ := Kd.R_slice a4.out
             subst Q6
             go_wp2
             refine bodyPost_ret (results_ct rfl _ _ b6 39 #[.slice d0 a5.length d1, .slice D8 a7.length D9] (0, 0) _ rfl (by refine blk_put (cs := #[.slice d0 a5.length d1, .slice none 0 0]) ?_ 1 _ rfl; refine blk_put (cs := #[.slice none 0 0, .slice none 0 0]) ?_ 0 _ rfl; exact a3.out) Try.underlying39 rfl (by kernel_rfl)) rfl ?_
             exact ⟨_, _, rfl, by exact Kd.R_mono (Kd.R_far (p := ⟨b6, 1, none⟩) (Kd.R_far (p := ⟨b6, 0, none⟩) (Kd.R_types a6.out a3.out (by decide)) (fun _ hk => hk.2) (.slice d0 a5.length d1)) (fun _ hk => hk.2) (.slice D8 a7.length D9)) (fun _ hk => trivial), by exact Kd.R_mono (Kd.R_far (p := ⟨b6, 1, none⟩) (Kd.R_far (p := ⟨b6, 0, none⟩) (Kd.R_types a4.out a3.out (by decide)) (fun _ hk => hk.2) (.slice d0 a5.length d1)) (fun _ hk => hk.2) (.slice D8 a7.length D9)) (fun _ hk => trivial), by repeat (first | (with_reducible first | exact HB.out | apply below_alloc | apply pw_below_drewN | apply below_drew1 | refine below_set ?_ g1.out | refine below_set ?_ g2.out | refine below_set ?_ i0.out) | exact HB.out)⟩
            ·replace F2 := Bool.eq_false_iff.mpr F2
             subst F2
             have H1 : (if 0 ≤ (a5.length : Int) then (if (a5.length : Int) < (a7.length : Int) then ((some (a7.set ((a5.length : Int) : Int).toNat 1 : List Int)).bind fun i3 => (if d6 = true then (pats_one.l0 j7 l0 d6 true d3 l0 (l0.length : Int) (wrap64 (a2 + 1)) a5 i3) else (pats_one.l0 j7 l0 d6 true d3 l0 (l0.length : Int) (wrap64 (a2 + 1)) a5 (i3.set ((a5.length : Int) : Int).toNat ((wrap32 (((rd_T66 l0 a2).f0) - 48)) % 256))))) else (none)) else (none)) = some (r1, r2, r3) := by rw [if_neg (show ¬ (false = true) by decide)] at H; exact H
             clear H
             have H := H1
             clear H1
             by_cases F3 : 0 ≤ (a5.length : Int)
             ·rw [if_pos F3] at H
              have al3 : decide (0 ≤ (a5.length : Int)) = true := decide_eq_true F3
              have al4 : decide (0 ≤ a5.length) = true := decide_eq_true (by omega)
              clear F3
              by_cases D2 : (a5.length : Int) < (a7.length : Int)
              ·rw [if_pos D2] at H
               have al5 : decide ((a5.length : Int) < (a7.length : Int)) = true := decide_eq_true D2
               have al6 : decide (a5.length < a7.length) = true := decide_eq_true (Int.ofNat_lt.mp D2)
               clear D2
               obtain ⟨i3, m3⟩ : ∃ y_ : List Int, y_ = (a7.set ((a5.length : Int) : Int).toNat 1) := ⟨_, rfl⟩
               replace H : (if d6 = true then (pats_one.l0 j7 l0 d6 true d3 l0 (l0.length : Int) (wrap64 (a2 + 1)) a5 i3) else (pats_one.l0 j7 l0 d6 true d3 l0 (l0.length : Int) (wrap64 (a2 + 1)) a5 (i3.set ((a5.length : Int) : Int).toNat ((wrap32 (((rd_T66 l0 a2).f0) - 48)) % 256)))) = some (r1, r2, r3) := by first | (rw [m3]; with_reducible exact H) | (have d7 := (Option.bind_some _ _).symm.trans H; rw [m3]; with_reducible exact d7) | (have d7 := (Option.bind_some _ _).symm.trans H; with_reducible exact d7) | with_reducible exact H | (rw [m3]; exact H) | exact H
               have A1 := Aside0.mk m3
               clear m3
               by_cases F4 : d6 = true
               ·subst F4
                have H1 : (pats_one.l0 j7 l0 true true d3 l0 (l0.length : Int) (wrap64 (a2 + 1)) a5 i3) = some (r1, r2, r3) := by rw [if_pos rfl] at H; exact H
                clear H
                have H := H1
                clear H1
                have H' := Aside0.mk H
                clear H
                have al7 := c7.out
                have al8 := c6.out
                have al9 := b7.out
                have am0 := c8.out
                have Y5 : wc.cell? ⟨a9, 0, none⟩ = some (.slice d0 a5.length d1) := (blk_cell a0.out 0).trans rfl
                have Y6 : wc.cell? ⟨a9, 1, none⟩ = some (i4) := (blk_cell a0.out 1).trans rfl
                have Y7 := blk_frozen a0.out 0
                have Y8 := blk_frozen a0.out 1
                have s5 : 0 ≤ ((a5.length : Int) : Int) := of_decide_eq_true (by assumption)
                have s6 : ((a5.length : Int) : Int) < ((a7.length : Int) : Int) := of_decide_eq_true (by assumption)
                obtain ⟨h8, i6, s7, s8, E0, Q7, s9⟩ := Kd.R_form a4.out (by omega)
                (first | cases s7 | (injection s7 with ea_ en_ ec_; (first | subst ea_ | (injection ea_ with ea_; subst ea_)); subst ec_; clear en_))
                have A3 := Aside0.mk s8
                have Q8 := Aside0.mk s9
                clear s8 E0 s9
                obtain ⟨t0, hf70_0⟩ := Kd.R_celln 0 a4.out ((a5.length : Int) : Int) s5 s6
                replace s5 := eq_true s5
                replace s6 := eq_true s6
                have A4 := Kd.R_putg a4.out ((a5.length : Int) : Int) 1
                simp only [Int.toNat_natCast] at t0 hf70_0 A4 A1
                go_wp2_with (first | ((with_reducible refine gate_store (t := 5) (p := 86) rfl ?_); refine store_event (t := 5) (p := 86) (v := ?vo_w76) (w1 := (wc.setCell ⟨h8, a5.length, none⟩ (.int .u8 1))) ?hg ?ho ?hn ?hr ?_; (case ho => rfl); (case hg => rfl); (case hn => rfl); (case hr => first | (go_simp; done) | (go_simp; rfl)); intro L0 hw; have hg : wc.grownBy L0 (some h8) := (by rw [hw]; exact A4.2); have hp_ : Kd.R (Kd.int .u8) 5 L0 w.heap.size (fun _ => True) (.slice (some ⟨h8, 0, none⟩) a7.length i6) i3 := (by rw [hw, A1.out]; exact A4.1); clear A4; have b0 := Aside0.mk (Kd.R_over' (v := (.slice (some ⟨h8, 0, none⟩) a7.length i6)) (by exact a6.out) (Kd.R_typed a4.out) (by decide) hg); have b1 := Aside0.mk (hp_); have b2 := Aside0.mk (blk_grown a3.out hg (Kd.R_ne a4.out a3.out (by decide))); have b3 := Aside0.mk (blk_grown a0.out hg (Kd.R_ne a4.out a0.out (by decide))); have b4 := Aside0.mk (blk_grown a1.out hg (Kd.R_ne a4.out a1.out (by decide))); have b5 := Aside0.mk ((by rw [hw]; exact below_set (HB.out) A3.out : Below w.heap.size w L0)); clear a6; clear a4; clear a3; clear a0; clear a1; clear HB; have a6 := b0; have a4 := b1; have a3 := b2; have a0 := b3; have a1 := b4; have HB := b5; clear b0 b1 b2 b3 b4 b5; clear hg hw hp_))
                go_roundg j7
                case measure => have := i1.out; have := h9.out; have := z9.out; omega
                case rel => exact ⟨(true), (d3), (wrap64 (a2 + 1)), (a5), (i3), (.slice d0 a5.length d1), (.slice (some ⟨h8, 0, none⟩) a7.length i6), (rfl), (rfl), (rfl), H', ⟨by have := i1.out; have := h9.out; have := z9.out; omega⟩, ⟨by exact a6.out⟩, ⟨by exact a4.out⟩, ⟨by exact a3.out⟩, ⟨by exact a0.out⟩, ⟨HB.out⟩⟩
               ·replace F4 := Bool.eq_false_iff.mpr F4
                subst F4
                have H1 : (pats_one.l0 j7 l0 false true d3 l0 (l0.length : Int) (wrap64 (a2 + 1)) a5 (i3.set ((a5.length : Int) : Int).toNat ((wrap32 (((rd_T66 l0 a2).f0) - 48)) % 256))) = some (r1, r2, r3) := by rw [if_neg (show ¬ (false = true) by decide)] at H; exact H
                clear H
                have H := H1
                clear H1
                obtain ⟨E1, m4⟩ : ∃ y_ : List Int, y_ = (i3.set ((a5.length : Int) : Int).toNat ((wrap32 (((rd_T66 l0 a2).f0) - 48)) % 256)) := ⟨_, rfl⟩
                replace H : (pats_one.l0 j7 l0 false true d3 l0 (l0.length : Int) (wrap64 (a2 + 1)) a5 E1) = some (r1, r2, r3) := by first | (rw [m4]; with_reducible exact H) | (have d7 := (Option.bind_some _ _).symm.trans H; rw [m4]; with_reducible exact d7) | (have d7 := (Option.bind_some _ _).symm.trans H; with_reducible exact d7) | with_reducible exact H | (rw [m4]; exact H) | exact H
                have F5 := Aside0.mk m4
                clear m4
                have H' := Aside0.mk H
                clear H
                have am1 := c7.out
                have am2 := c6.out
                have am3 := b7.out
                have am4 := c8.out
                have Y9 : wc.cell? ⟨a9, 0, none⟩ = some (.slice d0 a5.length d1) := (blk_cell a0.out 0).trans rfl
                have Z0 : wc.cell? ⟨a9, 1, none⟩ = some (i4) := (blk_cell a0.out 1).trans rfl
                have Z1 := blk_frozen a0.out 0
                have Z2 := blk_frozen a0.out 1
                have s5 : 0 ≤ ((a5.length : Int) : Int) := of_decide_eq_true (by assumption)
                have s6 : ((a5.length : Int) : Int) < ((a7.length : Int) : Int) := of_decide_eq_true (by assumption)
                obtain ⟨h8, i6, s7, s8, E0, Q7, s9⟩ := Kd.R_form a4.out (by omega)
                (first | cases s7 | (injection s7 with ea_ en_ ec_; (first | subst ea_ | (injection ea_ with ea_; subst ea_)); subst ec_; clear en_))
                have A3 := Aside0.mk s8
                have Q8 := Aside0.mk s9
                clear s8 E0 s9
                obtain ⟨t0, hf70_0⟩ := Kd.R_celln 0 a4.out ((a5.length : Int) : Int) s5 s6
                replace s5 := eq_true s5
                replace s6 := eq_true s6
                have A5 := Kd.R_putg a4.out ((a5.length : Int) : Int) 1
                simp only [Int.toNat_natCast] at t0 hf70_0 A5 F5
                go_wp2_with (first | ((with_reducible refine gate_store (t := 5) (p := 86) rfl ?_); refine store_event (t := 5) (p := 86) (v := ?vo_w82) (w1 := (wc.setCell ⟨h8, a5.length, none⟩ (.int .u8 1))) ?hg ?ho ?hn ?hr ?_; (case ho => rfl); (case hg => rfl); (case hn => rfl); (case hr => first | (go_simp; done) | (go_simp; rfl)); intro l4 hw; have hg : wc.grownBy l4 (some h8) := (by rw [hw]; exact A5.2); have hp_ : Kd.R (Kd.int .u8) 5 l4 w.heap.size (fun _ => True) (.slice (some ⟨h8, 0, none⟩) a7.length i6) i3 := (by rw [hw, A1.out]; exact A5.1); clear A5; have b0 := Aside0.mk (Kd.R_over' (v := (.slice (some ⟨h8, 0, none⟩) a7.length i6)) (by exact a6.out) (Kd.R_typed a4.out) (by decide) hg); have b1 := Aside0.mk (hp_); have b2 := Aside0.mk (blk_grown a3.out hg (Kd.R_ne a4.out a3.out (by decide))); have b3 := Aside0.mk (blk_grown a0.out hg (Kd.R_ne a4.out a0.out (by decide))); have b4 := Aside0.mk (blk_grown a1.out hg (Kd.R_ne a4.out a1.out (by decide))); have b5 := Aside0.mk ((by rw [hw]; exact below_set (HB.out) A3.out : Below w.heap.size w l4)); clear a6; clear a4; clear a3; clear a0; clear a1; clear HB; have a6 := b0; have a4 := b1; have a3 := b2; have a0 := b3; have a1 := b4; have HB := b5; clear b0 b1 b2 b3 b4 b5; clear hg hw hp_; have Z3 : l4.cell? ⟨a9, 0, none⟩ = some (.slice d0 a5.length d1) := (blk_cell a0.out 0).trans rfl; have Z4 : l4.cell? ⟨a9, 1, none⟩ = some (.slice (some ⟨h8, 0, none⟩) a7.length i6) := (blk_cell a0.out 1).trans rfl; have Z5 := blk_frozen a0.out 0; have Z6 := blk_frozen a0.out 1; have am5 := e1.out; have am6 := b9.out; have Z7 : l4.cell? ⟨a8, 0, none⟩ = some (.int .i32 ((rd_T66 l0 a2).f0)) := (blk_cell a1.out 0).trans rfl; have Z8 : l4.cell? ⟨a8, 1, none⟩ = some (.int .i64 ((rd_T66 l0 a2).f1)) := (blk_cell a1.out 1).trans rfl; have Z9 : l4.cell? ⟨a8, 2, none⟩ = some (.int .i64 ((rd_T66 l0 a2).f2)) := (blk_cell a1.out 2).trans rfl; have aa0 := blk_frozen a1.out 0; have aa1 := blk_frozen a1.out 1; have aa2 := blk_frozen a1.out 2; have L1 : 0 ≤ ((a5.length : Int) : Int) := of_decide_eq_true (by assumption); have L2 : ((a5.length : Int) : Int) < ((a7.length : Int) : Int) := of_decide_eq_true (by assumption); obtain ⟨ad5, hf77_0⟩ := Kd.R_celln 0 a4.out ((a5.length : Int) : Int) L1 L2; replace L1 := eq_true L1; replace L2 := eq_true L2; obtain ⟨N3, N4⟩ := Kd.R_celln 0 a4.out ((a5.length : Int) : Int) (of_decide_eq_true (by assumption)) (of_decide_eq_true (by assumption)); (try simp only [Go.IntWalk.toNatUp] at N3 N4); have E2 := Kd.R_putg a4.out ((a5.length : Int) : Int) ((wrap32 (((rd_T66 l0 a2).f0) - 48)) % 256)) | ((with_reducible refine gate_store (t := 5) (p := 96) rfl ?_); refine store_event (t := 5) (p := 96) (v := ?vo_w87) (w1 := (l4.setCell ⟨h8, a5.length, none⟩ (.int .u8 ((wrap32 (((rd_T66 l0 a2).f0) - 48)) % 256)))) ?hg ?ho ?hn ?hr ?_; (case ho => rfl); (case hg => rfl); (case hn => rfl); (case hr => first | (go_simp; done) | (go_simp; rfl)); intro L3 hw; have hg : l4.grownBy L3 (some h8) := (by rw [hw]; exact E2.2); have hp_ : Kd.R (Kd.int .u8) 5 L3 w.heap.size (fun _ => True) (.slice (some ⟨h8, 0, none⟩) a7.length i6) E1 := (by rw [hw, F5.out]; exact E2.1); clear E2; have b0 := Aside0.mk (Kd.R_over' (v := (.slice (some ⟨h8, 0, none⟩) a7.length i6)) (by exact a6.out) (Kd.R_typed a4.out) (by decide) hg); have b1 := Aside0.mk (hp_); have b2 := Aside0.mk (blk_grown a3.out hg (Kd.R_ne a4.out a3.out (by decide))); have b3 := Aside0.mk (blk_grown a0.out hg (Kd.R_ne a4.out a0.out (by decide))); have b4 := Aside0.mk (blk_grown a1.out hg (Kd.R_ne a4.out a1.out (by decide))); have b5 := Aside0.mk ((by rw [hw]; exact below_set (HB.out) A3.out : Below w.heap.size w L3)); clear a6; clear a4; clear a3; clear a0; clear a1; clear HB; have a6 := b0; have a4 := b1; have a3 := b2; have a0 := b3; have a1 := b4; have HB := b5; clear b0 b1 b2 b3 b4 b5; clear hg hw hp_))
                go_roundg j7
                case measure => have := i1.out; have := h9.out; have := z9.out; omega
                case rel => exact ⟨(true), (d3), (wrap64 (a2 + 1)), (a5), (E1), (.slice d0 a5.length d1), (.slice (some ⟨h8, 0, none⟩) a7.length i6), (rfl), (rfl), (rfl), H', ⟨by have := i1.out; have := h9.out; have := z9.out; omega⟩, ⟨by exact a6.out⟩, ⟨by exact a4.out⟩, ⟨by exact a3.out⟩, ⟨by exact a0.out⟩, ⟨HB.out⟩⟩
              ·rw [if_neg D2] at H
               exact absurd H (by simp)
             ·rw [if_neg F3] at H
              exact absurd H (by simp)
         ·replace C9 := Bool.eq_false_iff.mpr C9
          subst C9
          have H1 : (if ((rd_T66 l0 a2).f0) = 46 then (if d6 = true then (some (a5, a7, false)) else (if a2 = 0 then ((some (([46] : List Int) : List Int)).bind fun e9 => (if a5.length + e9.length < 35184372088832 then ((some (([0] : List Int) : List Int)).bind fun f4 => (if a7.length + f4.length < 140737488355328 then (pats_one.l0 e2 l0 d6 false d3 l0 (l0.length : Int) (wrap64 (a2 + 1)) (a5 ++ e9) (a7 ++ f4)) else (none))) else (none))) else (if (a2 = (wrap64 ((l0.length : Int) - 1))) then ((some (([46] : List Int) : List Int)).bind fun f3 => (if a5.length + f3.length < 35184372088832 then ((some (([0] : List Int) : List Int)).bind fun f5 => (if a7.length + f5.length < 140737488355328 then (pats_one.l0 e2 l0 d6 false d3 l0 (l0.length : Int) (wrap64 (a2 + 1)) (a5 ++ f3) (a7 ++ f5)) else (none))) else (none))) else (some (a5, a7, false))))) else ((some (([((rd_T66 l0 a2).f0)] : List Int) : List Int)).bind fun f6 => (if a5.length + f6.length < 35184372088832 then ((some (([0] : List Int) : List Int)).bind fun g0 => (if a7.length + g0.length < 140737488355328 then (pats_one.l0 e2 l0 d6 false (wrap64 (d3 + 1)) l0 (l0.length : Int) (wrap64 (a2 + 1)) (a5 ++ f6) (a7 ++ g0)) else (none))) else (none)))) = some (r1, r2, r3) := by rw [if_neg (show ¬ (false = true) by decide)] at H; exact H
          clear H
          have H := H1
          clear H1
          by_cases t1 : ((rd_T66 l0 a2).f0) = 46
          ·rw [if_pos t1] at H
           have N5 : (((rd_T66 l0 a2).f0) == 46) = true := beq_iff_eq.mpr t1
           have N6 : (((rd_T66 l0 a2).f0) != 46) = false := bne_eq_false_iff_eq.mpr t1
           clear t1
           by_cases F6 : d6 = true
           ·subst F6
            have H1 : (some (a5, a7, false)) = some (r1, r2, r3) := by rw [if_pos rfl] at H; exact H
            clear H
            have H := H1
            clear H1
            simp only [Option.some.injEq, Prod.mk.injEq] at H
            obtain ⟨rfl, rfl, rfl⟩ := H
            have am7 := e1.out
            have am8 := b9.out
            have am9 := c8.out
            have an0 := b7.out
            have aa3 : wc.cell? ⟨a8, 0, none⟩ = some (.int .i32 ((rd_T66 l0 a2).f0)) := (blk_cell a1.out 0).trans rfl
            have aa4 : wc.cell? ⟨a8, 1, none⟩ = some (.int .i64 ((rd_T66 l0 a2).f1)) := (blk_cell a1.out 1).trans rfl
            have aa5 : wc.cell? ⟨a8, 2, none⟩ = some (.int .i64 ((rd_T66 l0 a2).f2)) := (blk_cell a1.out 2).trans rfl
            have aa6 := blk_frozen a1.out 0
            have aa7 := blk_frozen a1.out 1
            have aa8 := blk_frozen a1.out 2
            have an1 := c7.out
            have an2 := c6.out
            have aa9 : wc.cell? ⟨a9, 0, none⟩ = some (.slice d0 a5.length d1) := (blk_cell a0.out 0).trans rfl
            have ab0 : wc.cell? ⟨a9, 1, none⟩ = some (i4) := (blk_cell a0.out 1).trans rfl
            have ab1 := blk_frozen a0.out 0
            have ab2 := blk_frozen a0.out 1
            have ab3 : wc.cell? ⟨b6, 0, none⟩ = some (.slice none 0 0) := (blk_cell a3.out 0).trans rfl
            have ab4 : wc.cell? ⟨b6, 1, none⟩ = some (.slice none 0 0) := (blk_cell a3.out 1).trans rfl
            have ab5 := blk_frozen a3.out 0
            have ab6 := blk_frozen a3.out 1
            obtain ⟨E3, E4, Q9⟩ := Kd.R_slice a4.out
            subst Q9
            go_wp2
            refine bodyPost_ret (results_ct rfl _ _ b6 39 #[.slice d0 a5.length d1, .slice E3 a7.length E4] (0, 0) _ rfl (by refine blk_put (cs := #[.slice d0 a5.length d1, .slice none 0 0]) ?_ 1 _ rfl; refine blk_put (cs := #[.slice none 0 0, .slice none 0 0]) ?_ 0 _ rfl; exact a3.out) Try.underlying39 rfl (by kernel_rfl)) rfl ?_
            exact ⟨_, _, rfl, by exact Kd.R_mono (Kd.R_far (p := ⟨b6, 1, none⟩) (Kd.R_far (p := ⟨b6, 0, none⟩) (Kd.R_types a6.out a3.out (by decide)) (fun _ hk => hk.2) (.slice d0 a5.length d1)) (fun _ hk => hk.2) (.slice E3 a7.length E4)) (fun _ hk => trivial), by exact Kd.R_mono (Kd.R_far (p := ⟨b6, 1, none⟩) (Kd.R_far (p := ⟨b6, 0, none⟩) (Kd.R_types a4.out a3.out (by decide)) (fun _ hk => hk.2) (.slice d0 a5.length d1)) (fun _ hk => hk.2) (.slice E3 a7.length E4)) (fun _ hk => trivial), by repeat (first | (with_reducible first | exact HB.out | apply below_alloc | apply pw_below_drewN | apply below_drew1 | refine below_set ?_ g1.out | refine below_set ?_ g2.out | refine below_set ?_ i0.out) | exact HB.out)⟩
           ·replace F6 := Bool.eq_false_iff.mpr F6
            subst F6
            have H1 : (if a2 = 0 then ((some (([46] : List Int) : List Int)).bind fun e9 => (if a5.length + e9.length < 35184372088832 then ((some (([0] : List Int) : List Int)).bind fun f4 => (if a7.length + f4.length < 140737488355328 then (pats_one.l0 e2 l0 false false d3 l0 (l0.length : Int) (wrap64 (a2 + 1)) (a5 ++ e9) (a7 ++ f4)) else (none))) else (none))) else (if (a2 = (wrap64 ((l0.length : Int) - 1))) then ((some (([46] : List Int) : List Int)).bind fun f3 => (if a5.length + f3.length < 35184372088832 then ((some (([0] : List Int) : List Int)).bind fun f5 => (if a7.length + f5.length < 140737488355328 then (pats_one.l0 e2 l0 false false d3 l0 (l0.length : Int) (wrap64 (a2 + 1)) (a5 ++ f3) (a7 ++ f5)) else (none))) else (none))) else (some (a5, a7, false)))) = some (r1, r2, r3) := by rw [if_neg (show ¬ (false = true) by decide)] at H; exact H
            clear H
            have H := H1
            clear H1
            by_cases t2 : a2 = 0
            ·rw [if_pos t2] at H
             have N7 : (a2 == 0) = true := beq_iff_eq.mpr t2
             have N8 : (a2 != 0) = false := bne_eq_false_iff_eq.mpr t2
             clear t2
             obtain ⟨e9, m5⟩ : ∃ y_ : List Int, y_ = (([46] : List Int)) := ⟨_, rfl⟩
             replace H : (if a5.length + e9.length < 35184372088832 then ((some (([0] : List Int) : List Int)).bind fun f4 => (if a7.length + f4.length < 140737488355328 then (pats_one.l0 e2 l0 false false d3 l0 (l0.length : Int) (wrap64 (a2 + 1)) (a5 ++ e9) (a7 ++ f4)) else (none))) else (none)) = some (r1, r2, r3) := by first | (rw [m5]; with_reducible exact H) | (have d7 := (Option.bind_some _ _).symm.trans H; rw [m5]; with_reducible exact d7) | (have d7 := (Option.bind_some _ _).symm.trans H; with_reducible exact d7) | with_reducible exact H | (rw [m5]; exact H) | exact H
             have q0 := Aside0.mk m5
             clear m5
             by_cases F7 : a5.length + e9.length < 35184372088832
             ·rw [if_pos F7] at H
              have A6 := Aside0.mk F7
              clear F7
              obtain ⟨i7, m6⟩ : ∃ y_ : List Int, y_ = (a5 ++ e9) := ⟨_, rfl⟩
              replace H : ((some (([0] : List Int) : List Int)).bind fun f4 => (if a7.length + f4.length < 140737488355328 then (pats_one.l0 e2 l0 false false d3 l0 (l0.length : Int) (wrap64 (a2 + 1)) i7 (a7 ++ f4)) else (none))) = some (r1, r2, r3) := by first | (rw [m6]; with_reducible exact H) | (have d7 := (Option.bind_some _ _).symm.trans H; rw [m6]; with_reducible exact d7) | (have d7 := (Option.bind_some _ _).symm.trans H; with_reducible exact d7) | with_reducible exact H | (rw [m6]; exact H) | exact H
              have A7 := Aside0.mk m6
              clear m6
              obtain ⟨f4, m7⟩ : ∃ y_ : List Int, y_ = (([0] : List Int)) := ⟨_, rfl⟩
              replace H : (if a7.length + f4.length < 140737488355328 then (pats_one.l0 e2 l0 false false d3 l0 (l0.length : Int) (wrap64 (a2 + 1)) i7 (a7 ++ f4)) else (none)) = some (r1, r2, r3) := by first | (rw [m7]; with_reducible exact H) | (have d7 := (Option.bind_some _ _).symm.trans H; rw [m7]; with_reducible exact d7) | (have d7 := (Option.bind_some _ _).symm.trans H; with_reducible exact d7) | with_reducible exact H | (rw [m7]; exact H) | exact H
              have k7 := Aside0.mk m7
              clear m7
              by_cases F8 : a7.length + f4.length < 140737488355328
              ·rw [if_pos F8] at H
               have N9 := Aside0.mk F8
               clear F8
               obtain ⟨t3, m8⟩ : ∃ y_ : List Int, y_ = (a7 ++ f4) := ⟨_, rfl⟩
               replace H : (pats_one.l0 e2 l0 false false d3 l0 (l0.length : Int) (wrap64 (a2 + 1)) i7 t3) = some (r1, r2, r3) := by first | (rw [m8]; with_reducible exact H) | (have d7 := (Option.bind_some _ _).symm.trans H; rw [m8]; with_reducible exact d7) | (have d7 := (Option.bind_some _ _).symm.trans H; with_reducible exact d7) | with_reducible exact H | (rw [m8]; exact H) | exact H
               have O0 := Aside0.mk m8
               clear m8
               have H' := Aside0.mk H
               clear H
               have ad6 := e1.out
               have ad7 := b9.out
               have ad8 := c8.out
               have ad9 := b7.out
               have R0 : wc.cell? ⟨a8, 0, none⟩ = some (.int .i32 ((rd_T66 l0 a2).f0)) := (blk_cell a1.out 0).trans rfl
               have R1 : wc.cell? ⟨a8, 1, none⟩ = some (.int .i64 ((rd_T66 l0 a2).f1)) := (blk_cell a1.out 1).trans rfl
               have R2 : wc.cell? ⟨a8, 2, none⟩ = some (.int .i64 ((rd_T66 l0 a2).f2)) := (blk_cell a1.out 2).trans rfl
               have R3 := blk_frozen a1.out 0
               have R4 := blk_frozen a1.out 1
               have R5 := blk_frozen a1.out 2
               obtain ⟨g6, g7, O1⟩ := Kd.R_slice a4.out
               subst O1
               try go_wp2
               have b0 := Aside0.mk (Kd.R_drew a6.out)
               have b1 := Aside0.mk (Kd.R_drew a4.out)
               have b2 := Aside0.mk (blk_drew a3.out)
               have b3 := Aside0.mk (blk_drew a0.out)
               have b4 := Aside0.mk (blk_drew a1.out)
               have b5 := Aside0.mk (below_drew1 HB.out)
               clear a6
               clear a4
               clear a3
               clear a0
               clear a1
               clear HB
               have a6 := b0
               have a4 := b1
               have a3 := b2
               have a0 := b3
               have a1 := b4
               have HB := b5
               clear b0 b1 b2 b3 b4 b5
               refine start_ (n := 13) (S := fun w' => w'.cell? ⟨a9, 0, none⟩ = some (.slice d0 a5.length d1) ∧ w'.cell? ⟨a9, 1, none⟩ = some (.slice g6 a7.length g7)) (ds := [9, 11]) #[false, false, false, false, false, false, false, false, false, false, false, false, false] (by kernel_rfl) rfl rfl ⟨(blk_cell a0.out 0).trans rfl, (blk_cell a0.out 1).trans rfl⟩ (fun hHeld => ?_); refine with_tabW pats_one.tab24 pats_one.bits24 (fun HT_ HW_ => ?_)
               generalize wc.drew = ao6 at a6 a4 a3 a0 a1 HB hHeld ⊢
               refine pure_ (i := 0) (N := some 118) (v := ?_) (a' := ?_) #[true, false, false, false, false, false, false, false, false, false, false, false, false] rfl rfl (any_of HT_.out (by kernel_rfl)) (fun _ _ _ h => h) (Or.inl ⟨by rfl, ?_⟩) ?_ ?_
               rotate_left
               ·intro w'
                go_simp
                with_reducible rfl
               rotate_left
               ·simp only [Act.put, List.setIfInBounds_toArray, List.set_cons_zero, List.set_cons_succ, i64_w, i32_w]
                rfl
               refine pure_ (i := 4) (N := some 122) (v := ?_) (a' := ?_) #[true, false, false, false, true, false, false, false, false, false, false, false, false] rfl rfl (any_of HT_.out (by kernel_rfl)) (fun _ _ _ h => h) (Or.inl ⟨by rfl, ?_⟩) ?_ ?_
               rotate_left
               ·intro w'
                go_simp
                with_reducible rfl
               rotate_left
               ·simp only [Act.put, List.setIfInBounds_toArray, List.set_cons_zero, List.set_cons_succ, i64_w, i32_w]
                rfl
               refine take_ (i := 1) (N := some 119) (v := ?_) (a' := ?_) #[true, true, false, false, true, false, false, false, false, false, false, false, false] rfl rfl (take_ofW HT_.out HW_.out (by kernel_rfl)) (fun _ _ _ h => h) (Or.inl ⟨by rfl, ?_⟩) hHeld ?_ ?_
               rotate_left
               ·rintro w' ⟨s0, s1⟩
                go_simp
                with_reducible rfl
               rotate_left
               ·simp only [Act.put, List.setIfInBounds_toArray, List.set_cons_zero, List.set_cons_succ, i64_w, i32_w]
                rfl
               refine take_ (i := 5) (N := some 123) (v := ?_) (a' := ?_) #[true, true, false, false, true, true, false, false, false, false, false, false, false] rfl rfl (take_ofW HT_.out HW_.out (by kernel_rfl)) (fun _ _ _ h => h) (Or.inl ⟨by rfl, ?_⟩) hHeld ?_ ?_
               rotate_left
               ·rintro w' ⟨s0, s1⟩
                go_simp
                with_reducible rfl
               rotate_left
               ·simp only [Act.put, List.setIfInBounds_toArray, List.set_cons_zero, List.set_cons_succ, i64_w, i32_w]
                rfl
               refine join_ (σ := Value × Value × Value) 5 #[true, true, true, true, true, true, true, false, true, false, false, false, false] (fun s_ => [(120, s_.1), (121, s_.2.1), (124, s_.2.2), (126, .pointer (some ⟨a9, 0, none⟩))]) (fun s_ w' => (w'.cell? ⟨a9, 0, none⟩ = some (.slice d0 a5.length d1) ∧ w'.cell? ⟨a9, 1, none⟩ = some (.slice g6 a7.length g7)) ∧ (Kd.R (Kd.int .i32) 21 w' w.heap.size (fun k_ => some k_ ≠ (s_.2.1 : Value).ownBlock) s_.1 e9) ∧ (Kd.R (Kd.int .i32) 21 w' w.heap.size (fun k_ => some k_ ≠ (s_.1 : Value).ownBlock) s_.2.1 i7) ∧ (Kd.R (Kd.int .u8) 5 w' w.heap.size (fun k_ => some k_ ≠ (.slice g6 a7.length g7 : Value).ownBlock) s_.2.2 f4) ∧ (Kd.R (Kd.int .u8) 5 w' w.heap.size (fun k_ => some k_ ≠ (s_.2.2 : Value).ownBlock) (.slice g6 a7.length g7) a7) ∧ (w'.heap[b6]? = some (.cells #[.slice none 0 0, .slice none 0 0] 39 (0, 0))) ∧ (w'.heap[a9]? = some (.cells #[.slice d0 a5.length d1, .slice g6 a7.length g7] 39 (0, 0))) ∧ (w'.heap[a8]? = some (.cells #[.int .i32 ((rd_T66 l0 a2).f0), .int .i64 ((rd_T66 l0 a2).f1), .int .i64 ((rd_T66 l0 a2).f2)] 66 (0, 0))) ∧ (Below w.heap.size w w')) ?_ ?_
               rotate_left
               ·intro hCont
                refine two_ (i := 2) (j := 6) (Ni := some 120) (Nj := some 124) #[true, true, true, false, true, true, false, false, false, false, false, false, false] #[true, true, false, false, true, true, true, false, false, false, false, false, false] rfl rfl rfl rfl (two_of HT_.out (by kernel_rfl)) (by decide) (by decide) (fun K hK => ?_) (fun K hK => ?_)
                ·skip
                 refine Kd.R_lit_step (Kd.int .i32) _ 21 ?hg (N := 120) ?hd (xs := ([46] : List Int)) (inner := [.int .i32 46]) (ok := fun _ => True) (okp := fun _ => True) ?hr ?hp (fun _ hk => hk) trivial (Below.refl _ _) (Nat.le_refl _) (by simp) ?_; (case hd => rfl); (case hg => rfl); (case hr => first | (go_simp; done) | (go_simp; rfl)); (case hp => exact (Reps.one (show Kd.M (Kd.int .i32) _ _ _ 46 [.int .i32 46] from rfl) (Reps.none _ _)))
                 intro A8 R6 g8 hb hg_ hnew_
                 clear hg_ hnew_
                 (first | rw [← q0.out] at g8 | (simp only [Int.reduceToNat] at g8; rw [← q0.out] at g8))
                 have b0 := Aside0.mk (Kd.R_elder' (by exact a6.out) (Kd.R_base g8) hb)
                 have b1 := Aside0.mk (Kd.R_below (by exact a4.out) hb)
                 have b2 := Aside0.mk (Kd.R_lower (Kd.R_new' g8 (Kd.R_lt (by exact a6.out))) (below_size (HB.out)))
                 have b3 := Aside0.mk (blk_below a3.out hb)
                 have b4 := Aside0.mk (blk_below a0.out hb)
                 have b5 := Aside0.mk (blk_below a1.out hb)
                 have b8 := Aside0.mk (below_step (HB.out) hb)
                 clear a6
                 clear a4
                 clear a3
                 clear a0
                 clear a1
                 clear HB
                 have a6 := b0
                 have a4 := b1
                 have d8 := b2
                 have a3 := b3
                 have a0 := b4
                 have a1 := b5
                 have HB := b8
                 clear b0 b1 b2 b3 b4 b5 b8
                 clear hb g8
                 obtain ⟨F9, G0, G1⟩ := Kd.R_slice d8.out
                 (first | subst G1 | (injection G1 with d4 e3 d5; have e4 := d4.symm; have e5 := d5.symm; clear d4 e3 d5; subst e4; subst e5))
                 refine hK.out _ _ ⟨(blk_cell a0.out 0).trans rfl, (blk_cell a0.out 1).trans rfl⟩ (fun hHeld => ?_)
                 clear hK K
                 refine norm_ (a' := ?_) ?_ ?_
                 rotate_left
                 ·show Act.put _ (some 120) _ = _
                  simp only [Act.put, List.setIfInBounds_toArray, List.set_cons_zero, List.set_cons_succ, i64_w, i32_w]
                  rfl
                 refine two_ (i := 3) (j := 6) (Ni := some 121) (Nj := some 124) #[true, true, true, true, true, true, false, false, false, false, false, false, false] #[true, true, true, false, true, true, true, false, false, false, false, false, false] rfl rfl rfl rfl (two_of HT_.out (by kernel_rfl)) (by decide) (by decide) (fun K hK => ?_) (fun K hK => ?_)
                 ·skip
                  refine Kd.R_append_rows_step (Kd.int .i32) (w0 := w) w.heap.size (by rfl) (.tmp 119) (.tmp 120) 23 21 (.int .i32 0) 4 rfl Try.underlying23 info21 rfl (by decide) (by omega) (.slice d0 a5.length d1) a5 e9 _ _ _ (fun k_ => some k_ ≠ (.slice F9 e9.length G0 : Value).ownBlock) (fun _ => False) rfl rfl ?aO ?aR (fun _ _ h => h) (fun _ h => h.elim) ?aF ?aB ?aS ?aL ?_
                  (case aR => repeat (first | exact (Kd.R_reads' d8.out).2.2 | (with_reducible refine Kd.C_alloc ?_ _) | (with_reducible refine Kd.C_drewN ?_ _) | (with_reducible refine Kd.C_drew ?_)))
                  (case aB => exact (HB.out))
                  (case aF => exact (fun k_ hk => Kd.fresh' (Kd.R_lt (by exact d8.out)) k_ hk))
                  (case aO => exact (by exact Kd.R_mono a6.out (fun _ hk => hk.2)))
                  (case aS => exact (below_size (HB.out)))
                  (case aL => have := A6.out; omega)
                  intro j9 L4 ho hb hg hat
                  rw [← A7.out] at ho
                  have b0 := Aside0.mk (Kd.R_over' (by exact a4.out) (Kd.R_typed (by exact a6.out)) (by decide) hg)
                  have b1 := Aside0.mk (blk_grown a3.out hg (Kd.R_ne a6.out a3.out (by decide)))
                  have b2 := Aside0.mk (blk_grown a0.out hg (Kd.R_ne a6.out a0.out (by decide)))
                  have b3 := Aside0.mk (blk_grown a1.out hg (Kd.R_ne a6.out a1.out (by decide)))
                  have b4 := Aside0.mk (Kd.R_after (ok := (fun _ => True)) (by exact d8.out) hg hat)
                  have b5 := Aside0.mk (hb)
                  have b8 := Aside0.mk (ho)
                  clear a4
                  clear a3
                  clear a0
                  clear a1
                  clear d8
                  clear HB
                  clear a6
                  have a4 := b0
                  have a3 := b1
                  have a0 := b2
                  have a1 := b3
                  have d8 := b4
                  have HB := b5
                  have f7 := b8
                  clear b0 b1 b2 b3 b4 b5 b8
                  clear ho hb hg hat
                  refine hK.out _ _ ⟨(blk_cell a0.out 0).trans rfl, (blk_cell a0.out 1).trans rfl⟩ (fun hHeld => ?_)
                  clear hK K
                  refine norm_ (a' := ?_) ?_ ?_
                  rotate_left
                  ·show Act.put _ (some 121) _ = _
                   simp only [Act.put, List.setIfInBounds_toArray, List.set_cons_zero, List.set_cons_succ, i64_w, i32_w]
                   rfl
                  refine pure_ (i := 8) (N := some 126) (v := ?_) (a' := ?_) #[true, true, true, true, true, true, false, false, true, false, false, false, false] rfl rfl (any_of HT_.out (by kernel_rfl)) (fun _ _ _ h => h) (Or.inl ⟨by rfl, ?_⟩) ?_ ?_
                  rotate_left
                  ·intro w'
                   go_simp
                   with_reducible rfl
                  rotate_left
                  ·simp only [Act.put, List.setIfInBounds_toArray, List.set_cons_zero, List.set_cons_succ, i64_w, i32_w]
                   rfl
                  refine one_ (i := 6) (N := some 124) #[true, true, true, true, true, true, true, false, true, false, false, false, false] rfl rfl (one_of HT_.out (by kernel_rfl)) (by decide) (fun K hK => ?_)
                  refine Kd.R_lit_step (Kd.int .u8) _ 5 ?hg (N := 124) ?hd (xs := ([0] : List Int)) (inner := [.int .u8 0]) (ok := fun _ => True) (okp := fun _ => True) ?hr ?hp (fun _ hk => hk) trivial (Below.refl _ _) (Nat.le_refl _) (by simp) ?_; (case hd => rfl); (case hg => rfl); (case hr => first | (go_simp; done) | (go_simp; rfl)); (case hp => exact (Reps.one (show Kd.M (Kd.int .u8) _ _ _ 0 [.int .u8 0] from rfl) (Reps.none _ _)))
                  intro k0 L5 k8 hb hg_ hnew_
                  clear hg_ hnew_
                  (first | rw [← k7.out] at k8 | (simp only [Int.reduceToNat] at k8; rw [← k7.out] at k8))
                  have b0 := Aside0.mk (Kd.R_elder' (by exact a4.out) (Kd.R_base k8) hb)
                  have b1 := Aside0.mk (Kd.R_below (by exact d8.out) hb)
                  have b2 := Aside0.mk (Kd.R_below (by exact f7.out) hb)
                  have b3 := Aside0.mk (Kd.R_lower (Kd.R_new' k8 (Kd.R_lt (by exact a4.out))) (below_size (HB.out)))
                  have b4 := Aside0.mk (blk_below a3.out hb)
                  have b5 := Aside0.mk (blk_below a0.out hb)
                  have b8 := Aside0.mk (blk_below a1.out hb)
                  have d2 := Aside0.mk (below_step (HB.out) hb)
                  clear a4
                  clear d8
                  clear f7
                  clear a3
                  clear a0
                  clear a1
                  clear HB
                  have a4 := b0
                  have d8 := b1
                  have f7 := b2
                  have e6 := b3
                  have a3 := b4
                  have a0 := b5
                  have a1 := b8
                  have HB := d2
                  clear b0 b1 b2 b3 b4 b5 b8 d2
                  clear hb k8
                  refine hK.out _ _ ⟨(blk_cell a0.out 0).trans rfl, (blk_cell a0.out 1).trans rfl⟩ (fun hHeld => ?_)
                  clear hK K
                  refine norm_ (a' := ?_) ?_ ?_
                  rotate_left
                  ·show Act.put _ (some 124) _ = _
                   simp only [Act.put, List.setIfInBounds_toArray, List.set_cons_zero, List.set_cons_succ, i64_w, i32_w]
                   rfl
                  exact norm_ (by simp only [putAll, Act.put, List.setIfInBounds_toArray, List.set_cons_zero, List.set_cons_succ]) (hCont (.slice F9 e9.length G0, j9, k0) _ ⟨hHeld, (by exact Kd.R_mono d8.out (fun _ hk => hk.2)), (by exact f7.out), (by exact Kd.R_mono e6.out (fun _ hk => hk.2)), (by exact Kd.R_mono a4.out (fun _ hk => hk.2)), (by exact a3.out), (by exact a0.out), (by exact a1.out), (HB.out)⟩)
                 ·skip
                  refine Kd.R_lit_step (Kd.int .u8) _ 5 ?hg (N := 124) ?hd (xs := ([0] : List Int)) (inner := [.int .u8 0]) (ok := fun _ => True) (okp := fun _ => True) ?hr ?hp (fun _ hk => hk) trivial (Below.refl _ _) (Nat.le_refl _) (by simp) ?_; (case hd => rfl); (case hg => rfl); (case hr => first | (go_simp; done) | (go_simp; rfl)); (case hp => exact (Reps.one (show Kd.M (Kd.int .u8) _ _ _ 0 [.int .u8 0] from rfl) (Reps.none _ _)))
                  intro k0 L4 g9 hb hg_ hnew_
                  clear hg_ hnew_
                  (first | rw [← k7.out] at g9 | (simp only [Int.reduceToNat] at g9; rw [← k7.out] at g9))
                  have b0 := Aside0.mk (Kd.R_below (by exact a6.out) hb)
                  have b1 := Aside0.mk (Kd.R_elder' (by exact a4.out) (Kd.R_base g9) hb)
                  have b2 := Aside0.mk (Kd.R_below (by exact d8.out) hb)
                  have b3 := Aside0.mk (Kd.R_lower (Kd.R_new' g9 (Kd.R_lt (by exact a4.out))) (below_size (HB.out)))
                  have b4 := Aside0.mk (blk_below a3.out hb)
                  have b5 := Aside0.mk (blk_below a0.out hb)
                  have b8 := Aside0.mk (blk_below a1.out hb)
                  have d2 := Aside0.mk (below_step (HB.out) hb)
                  clear a6
                  clear a4
                  clear d8
                  clear a3
                  clear a0
                  clear a1
                  clear HB
                  have a6 := b0
                  have a4 := b1
                  have d8 := b2
                  have e6 := b3
                  have a3 := b4
                  have a0 := b5
                  have a1 := b8
                  have HB := d2
                  clear b0 b1 b2 b3 b4 b5 b8 d2
                  clear hb g9
                  obtain ⟨m9, n0, n1⟩ := Kd.R_slice d8.out
                  (first | subst n1 | (injection n1 with d4 e3 d5; have e4 := d4.symm; have e5 := d5.symm; clear d4 e3 d5; subst e4; subst e5))
                  refine hK.out _ _ ⟨(blk_cell a0.out 0).trans rfl, (blk_cell a0.out 1).trans rfl⟩ (fun hHeld => ?_)
                  clear hK K
                  refine norm_ (a' := ?_) ?_ ?_
                  rotate_left
                  ·show Act.put _ (some 124) _ = _
                   simp only [Act.put, List.setIfInBounds_toArray, List.set_cons_zero, List.set_cons_succ, i64_w, i32_w]
                   rfl
                  refine one_ (i := 3) (N := some 121) #[true, true, true, true, true, true, true, false, false, false, false, false, false] rfl rfl (one_of HT_.out (by kernel_rfl)) (by decide) (fun K hK => ?_)
                  refine Kd.R_append_rows_step (Kd.int .i32) (w0 := w) w.heap.size (by rfl) (.tmp 119) (.tmp 120) 23 21 (.int .i32 0) 4 rfl Try.underlying23 info21 rfl (by decide) (by omega) (.slice d0 a5.length d1) a5 e9 _ _ _ (fun k_ => some k_ ≠ (.slice m9 e9.length n0 : Value).ownBlock) (fun _ => False) rfl rfl ?aO ?aR (fun _ _ h => h) (fun _ h => h.elim) ?aF ?aB ?aS ?aL ?_
                  (case aR => repeat (first | exact (Kd.R_reads' d8.out).2.2 | (with_reducible refine Kd.C_alloc ?_ _) | (with_reducible refine Kd.C_drewN ?_ _) | (with_reducible refine Kd.C_drew ?_)))
                  (case aB => exact (HB.out))
                  (case aF => exact (fun k_ hk => Kd.fresh' (Kd.R_lt (by exact d8.out)) k_ hk))
                  (case aO => exact (by exact Kd.R_mono a6.out (fun _ hk => hk.2)))
                  (case aS => exact (below_size (HB.out)))
                  (case aL => have := A6.out; omega)
                  intro j9 L5 ho hb hg hat
                  rw [← A7.out] at ho
                  have b0 := Aside0.mk (Kd.R_over' (by exact a4.out) (Kd.R_typed (by exact a6.out)) (by decide) hg)
                  have b1 := Aside0.mk (blk_grown a3.out hg (Kd.R_ne a6.out a3.out (by decide)))
                  have b2 := Aside0.mk (blk_grown a0.out hg (Kd.R_ne a6.out a0.out (by decide)))
                  have b3 := Aside0.mk (blk_grown a1.out hg (Kd.R_ne a6.out a1.out (by decide)))
                  have b4 := Aside0.mk (Kd.R_after (ok := (fun _ => True)) (by exact d8.out) hg hat)
                  have b5 := Aside0.mk (Kd.R_over' (by exact e6.out) (Kd.R_typed (by exact a6.out)) (by decide) hg)
                  have b8 := Aside0.mk (hb)
                  have d2 := Aside0.mk (ho)
                  clear a4
                  clear a3
                  clear a0
                  clear a1
                  clear d8
                  clear e6
                  clear HB
                  clear a6
                  have a4 := b0
                  have a3 := b1
                  have a0 := b2
                  have a1 := b3
                  have d8 := b4
                  have e6 := b5
                  have HB := b8
                  have f7 := d2
                  clear b0 b1 b2 b3 b4 b5 b8 d2
                  clear ho hb hg hat
                  refine hK.out _ _ ⟨(blk_cell a0.out 0).trans rfl, (blk_cell a0.out 1).trans rfl⟩ (fun hHeld => ?_)
                  clear hK K
                  refine norm_ (a' := ?_) ?_ ?_
                  rotate_left
                  ·show Act.put _ (some 121) _ = _
                   simp only [Act.put, List.setIfInBounds_toArray, List.set_cons_zero, List.set_cons_succ, i64_w, i32_w]
                   rfl
                  refine pure_ (i := 8) (N := some 126) (v := ?_) (a' := ?_) #[true, true, true, true, true, true, true, false, true, false, false, false, false] rfl rfl (any_of HT_.out (by kernel_rfl)) (fun _ _ _ h => h) (Or.inl ⟨by rfl, ?_⟩) ?_ ?_
                  rotate_left
                  ·intro w'
                   go_simp
                   with_reducible rfl
                  rotate_left
                  ·simp only [Act.put, List.setIfInBounds_toArray, List.set_cons_zero, List.set_cons_succ, i64_w, i32_w]
                   rfl
                  exact norm_ (by simp only [putAll, Act.put, List.setIfInBounds_toArray, List.set_cons_zero, List.set_cons_succ]) (hCont (.slice m9 e9.length n0, j9, k0) _ ⟨hHeld, (by exact Kd.R_mono d8.out (fun _ hk => hk.2)), (by exact f7.out), (by exact Kd.R_mono e6.out (fun _ hk => hk.2)), (by exact Kd.R_mono a4.out (fun _ hk => hk.2)), (by exact a3.out), (by exact a0.out), (by exact a1.out), (HB.out)⟩)
                ·skip
                 refine Kd.R_lit_step (Kd.int .u8) _ 5 ?hg (N := 124) ?hd (xs := ([0] : List Int)) (inner := [.int .u8 0]) (ok := fun _ => True) (okp := fun _ => True) ?hr ?hp (fun _ hk => hk) trivial (Below.refl _ _) (Nat.le_refl _) (by simp) ?_; (case hd => rfl); (case hg => rfl); (case hr => first | (go_simp; done) | (go_simp; rfl)); (case hp => exact (Reps.one (show Kd.M (Kd.int .u8) _ _ _ 0 [.int .u8 0] from rfl) (Reps.none _ _)))
                 intro k0 R6 g8 hb hg_ hnew_
                 clear hg_ hnew_
                 (first | rw [← k7.out] at g8 | (simp only [Int.reduceToNat] at g8; rw [← k7.out] at g8))
                 have b0 := Aside0.mk (Kd.R_below (by exact a6.out) hb)
                 have b1 := Aside0.mk (Kd.R_elder' (by exact a4.out) (Kd.R_base g8) hb)
                 have b2 := Aside0.mk (Kd.R_lower (Kd.R_new' g8 (Kd.R_lt (by exact a4.out))) (below_size (HB.out)))
                 have b3 := Aside0.mk (blk_below a3.out hb)
                 have b4 := Aside0.mk (blk_below a0.out hb)
                 have b5 := Aside0.mk (blk_below a1.out hb)
                 have b8 := Aside0.mk (below_step (HB.out) hb)
                 clear a6
                 clear a4
                 clear a3
                 clear a0
                 clear a1
                 clear HB
                 have a6 := b0
                 have a4 := b1
                 have e6 := b2
                 have a3 := b3
                 have a0 := b4
                 have a1 := b5
                 have HB := b8
                 clear b0 b1 b2 b3 b4 b5 b8
                 clear hb g8
                 refine hK.out _ _ ⟨(blk_cell a0.out 0).trans rfl, (blk_cell a0.out 1).trans rfl⟩ (fun hHeld => ?_)
                 clear hK K
                 refine norm_ (a' := ?_) ?_ ?_
                 rotate_left
                 ·show Act.put _ (some 124) _ = _
                  simp only [Act.put, List.setIfInBounds_toArray, List.set_cons_zero, List.set_cons_succ, i64_w, i32_w]
                  rfl
                 refine one_ (i := 2) (N := some 120) #[true, true, true, false, true, true, true, false, false, false, false, false, false] rfl rfl (one_of HT_.out (by kernel_rfl)) (by decide) (fun K hK => ?_)
                 refine Kd.R_lit_step (Kd.int .i32) _ 21 ?hg (N := 120) ?hd (xs := ([46] : List Int)) (inner := [.int .i32 46]) (ok := fun _ => True) (okp := fun _ => True) ?hr ?hp (fun _ hk => hk) trivial (Below.refl _ _) (Nat.le_refl _) (by simp) ?_; (case hd => rfl); (case hg => rfl); (case hr => first | (go_simp; done) | (go_simp; rfl)); (case hp => exact (Reps.one (show Kd.M (Kd.int .i32) _ _ _ 46 [.int .i32 46] from rfl) (Reps.none _ _)))
                 intro A8 L4 g9 hb hg_ hnew_
                 clear hg_ hnew_
                 (first | rw [← q0.out] at g9 | (simp only [Int.reduceToNat] at g9; rw [← q0.out] at g9))
                 have b0 := Aside0.mk (Kd.R_elder' (by exact a6.out) (Kd.R_base g9) hb)
                 have b1 := Aside0.mk (Kd.R_below (by exact a4.out) hb)
                 have b2 := Aside0.mk (Kd.R_below (by exact e6.out) hb)
                 have b3 := Aside0.mk (Kd.R_lower (Kd.R_new' g9 (Kd.R_lt (by exact a6.out))) (below_size (HB.out)))
                 have b4 := Aside0.mk (blk_below a3.out hb)
                 have b5 := Aside0.mk (blk_below a0.out hb)
                 have b8 := Aside0.mk (blk_below a1.out hb)
                 have d2 := Aside0.mk (below_step (HB.out) hb)
                 clear a6
                 clear a4
                 clear e6
                 clear a3
                 clear a0
                 clear a1
                 clear HB
                 have a6 := b0
                 have a4 := b1
                 have e6 := b2
                 have d8 := b3
                 have a3 := b4
                 have a0 := b5
                 have a1 := b8
                 have HB := d2
                 clear b0 b1 b2 b3 b4 b5 b8 d2
                 clear hb g9
                 obtain ⟨m9, n0, n1⟩ := Kd.R_slice d8.out
                 (first | subst n1 | (injection n1 with d4 e3 d5; have e4 := d4.symm; have e5 := d5.symm; clear d4 e3 d5; subst e4; subst e5))
                 refine hK.out _ _ ⟨(blk_cell a0.out 0).trans rfl, (blk_cell a0.out 1).trans rfl⟩ (fun hHeld => ?_)
                 clear hK K
                 refine norm_ (a' := ?_) ?_ ?_
                 rotate_left
                 ·show Act.put _ (some 120) _ = _
                  simp only [Act.put, List.setIfInBounds_toArray, List.set_cons_zero, List.set_cons_succ, i64_w, i32_w]
                  rfl
                 refine one_ (i := 3) (N := some 121) #[true, true, true, true, true, true, true, false, false, false, false, false, false] rfl rfl (one_of HT_.out (by kernel_rfl)) (by decide) (fun K hK => ?_)
                 refine Kd.R_append_rows_step (Kd.int .i32) (w0 := w) w.heap.size (by rfl) (.tmp 119) (.tmp 120) 23 21 (.int .i32 0) 4 rfl Try.underlying23 info21 rfl (by decide) (by omega) (.slice d0 a5.length d1) a5 e9 _ _ _ (fun k_ => some k_ ≠ (.slice m9 e9.length n0 : Value).ownBlock) (fun _ => False) rfl rfl ?aO ?aR (fun _ _ h => h) (fun _ h => h.elim) ?aF ?aB ?aS ?aL ?_
                 (case aR => repeat (first | exact (Kd.R_reads' d8.out).2.2 | (with_reducible refine Kd.C_alloc ?_ _) | (with_reducible refine Kd.C_drewN ?_ _) | (with_reducible refine Kd.C_drew ?_)))
                 (case aB => exact (HB.out))
                 (case aF => exact (fun k_ hk => Kd.fresh' (Kd.R_lt (by exact d8.out)) k_ hk))
                 (case aO => exact (by exact Kd.R_mono a6.out (fun _ hk => hk.2)))
                 (case aS => exact (below_size (HB.out)))
                 (case aL => have := A6.out; omega)
                 intro j9 L5 ho hb hg hat
                 rw [← A7.out] at ho
                 have b0 := Aside0.mk (Kd.R_over' (by exact a4.out) (Kd.R_typed (by exact a6.out)) (by decide) hg)
                 have b1 := Aside0.mk (blk_grown a3.out hg (Kd.R_ne a6.out a3.out (by decide)))
                 have b2 := Aside0.mk (blk_grown a0.out hg (Kd.R_ne a6.out a0.out (by decide)))
                 have b3 := Aside0.mk (blk_grown a1.out hg (Kd.R_ne a6.out a1.out (by decide)))
                 have b4 := Aside0.mk (Kd.R_over' (by exact e6.out) (Kd.R_typed (by exact a6.out)) (by decide) hg)
                 have b5 := Aside0.mk (Kd.R_after (ok := (fun _ => True)) (by exact d8.out) hg hat)
                 have b8 := Aside0.mk (hb)
                 have d2 := Aside0.mk (ho)
                 clear a4
                 clear a3
                 clear a0
                 clear a1
                 clear e6
                 clear d8
                 clear HB
                 clear a6
                 have a4 := b0
                 have a3 := b1
                 have a0 := b2
                 have a1 := b3
                 have e6 := b4
                 have d8 := b5
                 have HB := b8
                 have f7 := d2
                 clear b0 b1 b2 b3 b4 b5 b8 d2
                 clear ho hb hg hat
                 refine hK.out _ _ ⟨(blk_cell a0.out 0).trans rfl, (blk_cell a0.out 1).trans rfl⟩ (fun hHeld => ?_)
                 clear hK K
                 refine norm_ (a' := ?_) ?_ ?_
                 rotate_left
                 ·show Act.put _ (some 121) _ = _
                  simp only [Act.put, List.setIfInBounds_toArray, List.set_cons_zero, List.set_cons_succ, i64_w, i32_w]
                  rfl
                 refine pure_ (i := 8) (N := some 126) (v := ?_) (a' := ?_) #[true, true, true, true, true, true, true, false, true, false, false, false, false] rfl rfl (any_of HT_.out (by kernel_rfl)) (fun _ _ _ h => h) (Or.inl ⟨by rfl, ?_⟩) ?_ ?_
                 rotate_left
                 ·intro w'
                  go_simp
                  with_reducible rfl
                 rotate_left
                 ·simp only [Act.put, List.setIfInBounds_toArray, List.set_cons_zero, List.set_cons_succ, i64_w, i32_w]
                  rfl
                 exact norm_ (by simp only [putAll, Act.put, List.setIfInBounds_toArray, List.set_cons_zero, List.set_cons_succ]) (hCont (.slice m9 e9.length n0, j9, k0) _ ⟨hHeld, (by exact Kd.R_mono d8.out (fun _ hk => hk.2)), (by exact f7.out), (by exact Kd.R_mono e6.out (fun _ hk => hk.2)), (by exact Kd.R_mono a4.out (fun _ hk => hk.2)), (by exact a3.out), (by exact a0.out), (by exact a1.out), (HB.out)⟩)
               rintro ⟨A8, j9, k0⟩ i8 ⟨hS_, h0_, h1_, h2_, h3_, h4_, h5_, h6_, h7_⟩
               have b0 : Aside0 (Kd.R (Kd.int .i32) 21 i8 w.heap.size (fun k_ => some k_ ≠ (j9 : Value).ownBlock) A8 e9) := ⟨h0_⟩
               have b1 : Aside0 (Kd.R (Kd.int .i32) 21 i8 w.heap.size (fun k_ => some k_ ≠ (A8 : Value).ownBlock) j9 i7) := ⟨h1_⟩
               have b2 : Aside0 (Kd.R (Kd.int .u8) 5 i8 w.heap.size (fun k_ => some k_ ≠ (.slice g6 a7.length g7 : Value).ownBlock) k0 f4) := ⟨h2_⟩
               have b3 : Aside0 (Kd.R (Kd.int .u8) 5 i8 w.heap.size (fun k_ => some k_ ≠ (k0 : Value).ownBlock) (.slice g6 a7.length g7) a7) := ⟨h3_⟩
               have b4 : Aside0 (i8.heap[b6]? = some (.cells #[.slice none 0 0, .slice none 0 0] 39 (0, 0))) := ⟨h4_⟩
               have b5 : Aside0 (i8.heap[a9]? = some (.cells #[.slice d0 a5.length d1, .slice g6 a7.length g7] 39 (0, 0))) := ⟨h5_⟩
               have b8 : Aside0 (i8.heap[a8]? = some (.cells #[.int .i32 ((rd_T66 l0 a2).f0), .int .i64 ((rd_T66 l0 a2).f1), .int .i64 ((rd_T66 l0 a2).f2)] 66 (0, 0))) := ⟨h6_⟩
               have d2 : Aside0 (Below w.heap.size w i8) := ⟨h7_⟩
               clear a6
               clear a4
               clear a3
               clear a0
               clear a1
               clear HB
               clear h0_ h1_ h2_ h3_ h4_ h5_ h6_ h7_
               have d8 := b0
               have f7 := b1
               have e6 := b2
               have a4 := b3
               have a3 := b4
               have a0 := b5
               have a1 := b8
               have HB := d2
               clear b0 b1 b2 b3 b4 b5 b8 d2
               have hHeld : i8.cell? ⟨a9, 0, none⟩ = some (.slice d0 a5.length d1) ∧ i8.cell? ⟨a9, 1, none⟩ = some (.slice g6 a7.length g7) := hS_
               obtain ⟨O2, O3, G2⟩ := Kd.R_slice e6.out
               (first | subst G2 | (injection G2 with d4 e3 d5; have e4 := d4.symm; have e5 := d5.symm; clear d4 e3 d5; subst e4; subst e5))
               refine norm_ (a' := ?_) ?_ ?_
               rotate_left
               ·simp only [putAll, Act.put, List.setIfInBounds_toArray, List.set_cons_zero, List.set_cons_succ]
                rfl
               refine one_ (i := 7) (N := some 125) #[true, true, true, true, true, true, true, true, true, false, false, false, false] rfl rfl (one_of HT_.out (by kernel_rfl)) (by decide) (fun K hK => ?_)
               refine Kd.R_append_rows_step (Kd.int .u8) (w0 := w) w.heap.size (by rfl) (.tmp 123) (.tmp 124) 27 5 (.int .u8 0) 1 rfl Try.underlying27 info5 rfl (by decide) (by omega) (.slice g6 a7.length g7) a7 f4 _ _ _ (fun k_ => some k_ ≠ (.slice O2 f4.length O3 : Value).ownBlock) (fun _ => False) rfl rfl ?aO ?aR (fun _ _ h => h) (fun _ h => h.elim) ?aF ?aB ?aS ?aL ?_
               (case aR => repeat (first | exact (Kd.R_reads' e6.out).2.2 | (with_reducible refine Kd.C_alloc ?_ _) | (with_reducible refine Kd.C_drewN ?_ _) | (with_reducible refine Kd.C_drew ?_)))
               (case aB => exact (HB.out))
               (case aF => exact (fun k_ hk => Kd.fresh' (Kd.R_lt (by exact e6.out)) k_ hk))
               (case aO => exact (by exact a4.out))
               (case aS => exact (below_size (HB.out)))
               (case aL => have := N9.out; omega)
               intro ao7 L6 ho hb hg hat
               rw [← O0.out] at ho
               have b0 := Aside0.mk (blk_grown a3.out hg (Kd.R_ne a4.out a3.out (by decide)))
               have b1 := Aside0.mk (blk_grown a0.out hg (Kd.R_ne a4.out a0.out (by decide)))
               have b2 := Aside0.mk (blk_grown a1.out hg (Kd.R_ne a4.out a1.out (by decide)))
               have b3 := Aside0.mk (Kd.R_over' (by exact d8.out) (Kd.R_typed (by exact a4.out)) (by decide) hg)
               have b4 := Aside0.mk (Kd.R_over' (by exact f7.out) (Kd.R_typed (by exact a4.out)) (by decide) hg)
               have b5 := Aside0.mk (Kd.R_after (ok := (fun _ => True)) (by exact Kd.R_mono e6.out (fun _ hk => ⟨trivial, hk⟩)) hg hat)
               have b8 := Aside0.mk (hb)
               have d2 := Aside0.mk (ho)
               clear a3
               clear a0
               clear a1
               clear d8
               clear f7
               clear e6
               clear HB
               clear a4
               have a3 := b0
               have a0 := b1
               have a1 := b2
               have d8 := b3
               have f7 := b4
               have e6 := b5
               have HB := b8
               have G3 := d2
               clear b0 b1 b2 b3 b4 b5 b8 d2
               clear ho hb hg hat
               obtain ⟨q1, q3, G4⟩ := Kd.R_slice f7.out
               (first | subst G4 | (injection G4 with d4 e3 d5; have e4 := d4.symm; have e5 := d5.symm; clear d4 e3 d5; subst e4; subst e5))
               obtain ⟨A9, B0, G5⟩ := Kd.R_slice G3.out
               (first | subst G5 | (injection G5 with d4 e3 d5; have e4 := d4.symm; have e5 := d5.symm; clear d4 e3 d5; subst e4; subst e5))
               refine hK.out _ _ ⟨(blk_cell a0.out 0).trans rfl, (blk_cell a0.out 1).trans rfl⟩ (fun hHeld => ?_)
               clear hK K
               refine norm_ (a' := ?_) ?_ ?_
               rotate_left
               ·show Act.put _ (some 125) _ = _
                simp only [Act.put, List.setIfInBounds_toArray, List.set_cons_zero, List.set_cons_succ, i64_w, i32_w]
                rfl
               refine last_ (i := 9) (N := none) #[true, true, true, true, true, true, true, true, true, true, false, false, false] rfl rfl (one_of HT_.out (by kernel_rfl)) (by decide) (fun K hK => ?_)
               have an3 : L6.cell? ⟨a9, 0, none⟩ = some (.slice d0 a5.length d1) := (blk_cell a0.out 0).trans rfl
               have ae0 := blk_frozen a0.out 0
               have R7 := c6.out
               have R8 := c8.out
               have R9 := c7.out
               have S0 := b7.out
               refine skip_ (w1 := ?_) (by rfl) rfl ?_ ?_
               rotate_left
               ·go_simp
                rfl
               refine hK.out _ _ ?_
               clear hK K
               refine pure_ (i := 10) (N := some 127) (v := ?_) (a' := ?_) #[true, true, true, true, true, true, true, true, true, true, true, false, false] rfl rfl (any_of HT_.out (by kernel_rfl)) (fun _ _ _ h => h) (Or.inl ⟨by rfl, ?_⟩) ?_ ?_
               rotate_left
               ·intro w'
                go_simp
                with_reducible rfl
               rotate_left
               ·simp only [Act.put, List.setIfInBounds_toArray, List.set_cons_zero, List.set_cons_succ, i64_w, i32_w]
                rfl
               refine last_ (i := 11) (N := none) #[true, true, true, true, true, true, true, true, true, true, true, true, false] rfl rfl (one_of HT_.out (by kernel_rfl)) (by decide) (fun K hK => ?_)
               have an4 : L6.cell? ⟨a9, 1, none⟩ = some (.slice g6 a7.length g7) := (blk_cell a0.out 1).trans rfl
               have ae1 := blk_frozen a0.out 1
               have S1 := c6.out
               have S2 := c8.out
               have S3 := c7.out
               have S4 := b7.out
               refine skip_ (w1 := ?_) (by rfl) rfl ?_ ?_
               rotate_left
               ·go_simp
                rfl
               refine hK.out _ _ ?_
               clear hK K
               refine pure_ (i := 12) (N := some 6) (v := ?_) (a' := ?_) #[true, true, true, true, true, true, true, true, true, true, true, true, true] rfl rfl (any_of HT_.out (by kernel_rfl)) (fun _ _ _ h => h) (Or.inl ⟨by rfl, ?_⟩) ?_ ?_
               rotate_left
               ·intro w'
                go_simp
                with_reducible rfl
               rotate_left
               ·simp only [Act.put, List.setIfInBounds_toArray, List.set_cons_zero, List.set_cons_succ, i64_w, i32_w]
                rfl
               refine done_ (done_of HT_.out (by kernel_rfl)) ?_
               try go_wp2
               go_roundg e2
               case measure => have := i1.out; have := h9.out; omega
               case rel => exact ⟨(false), (d3), (wrap64 (a2 + 1)), (i7), (t3), (.slice q1 i7.length q3), (.slice A9 t3.length B0), (rfl), (rfl), (rfl), H', ⟨by have := i1.out; have := h9.out; omega⟩, ⟨by exact Kd.R_mono (Kd.R_far (p := ⟨a9, 1, none⟩) (Kd.R_far (p := ⟨a9, 0, none⟩) (Kd.R_types f7.out a0.out (by decide)) (fun _ hk => hk.2) (.slice q1 i7.length q3)) (fun _ hk => hk.2) (.slice A9 t3.length B0)) (fun _ hk => trivial)⟩, ⟨by exact Kd.R_mono (Kd.R_far (p := ⟨a9, 1, none⟩) (Kd.R_far (p := ⟨a9, 0, none⟩) (Kd.R_types G3.out a0.out (by decide)) (fun _ hk => hk.2) (.slice q1 i7.length q3)) (fun _ hk => hk.2) (.slice A9 t3.length B0)) (fun _ hk => trivial)⟩, ⟨by refine blk_far ?_ c6.out _; refine blk_far ?_ c6.out _; exact a3.out⟩, ⟨by refine blk_put (cs := #[.slice q1 i7.length q3, .slice g6 a7.length g7]) ?_ 1 _ rfl; refine blk_put (cs := #[.slice d0 a5.length d1, .slice g6 a7.length g7]) ?_ 0 _ rfl; exact a0.out⟩, ⟨by repeat (first | (with_reducible first | exact HB.out | apply below_alloc | apply pw_below_drewN | apply below_drew1 | refine below_set ?_ g1.out | refine below_set ?_ g2.out | refine below_set ?_ i0.out) | exact HB.out)⟩⟩
              ·rw [if_neg F8] at H
               exact absurd H (by simp)
             ·rw [if_neg F7] at H
              exact absurd H (by simp)
            ·rw [if_neg t2] at H
             have N7 : (a2 == 0) = false := beq_eq_false_iff_ne.mpr t2
             have N8 : (a2 != 0) = true := bne_iff_ne.mpr t2
             by_cases l5 : (a2 = (wrap64 ((l0.length : Int) - 1)))
             ·rw [if_pos l5] at H
              have L7 : (a2 == (wrap64 ((l0.length : Int) - 1))) = true := beq_iff_eq.mpr l5
              have L8 : (a2 != (wrap64 ((l0.length : Int) - 1))) = false := bne_eq_false_iff_eq.mpr l5
              clear l5
              obtain ⟨f3, n2⟩ : ∃ y_ : List Int, y_ = (([46] : List Int)) := ⟨_, rfl⟩
              replace H : (if a5.length + f3.length < 35184372088832 then ((some (([0] : List Int) : List Int)).bind fun f5 => (if a7.length + f5.length < 140737488355328 then (pats_one.l0 e2 l0 false false d3 l0 (l0.length : Int) (wrap64 (a2 + 1)) (a5 ++ f3) (a7 ++ f5)) else (none))) else (none)) = some (r1, r2, r3) := by first | (rw [n2]; with_reducible exact H) | (have d7 := (Option.bind_some _ _).symm.trans H; rw [n2]; with_reducible exact d7) | (have d7 := (Option.bind_some _ _).symm.trans H; with_reducible exact d7) | with_reducible exact H | (rw [n2]; exact H) | exact H
              have q4 := Aside0.mk n2
              clear n2
              by_cases B1 : a5.length + f3.length < 35184372088832
              ·rw [if_pos B1] at H
               have t4 := Aside0.mk B1
               clear B1
               obtain ⟨i9, n3⟩ : ∃ y_ : List Int, y_ = (a5 ++ f3) := ⟨_, rfl⟩
               replace H : ((some (([0] : List Int) : List Int)).bind fun f5 => (if a7.length + f5.length < 140737488355328 then (pats_one.l0 e2 l0 false false d3 l0 (l0.length : Int) (wrap64 (a2 + 1)) i9 (a7 ++ f5)) else (none))) = some (r1, r2, r3) := by first | (rw [n3]; with_reducible exact H) | (have d7 := (Option.bind_some _ _).symm.trans H; rw [n3]; with_reducible exact d7) | (have d7 := (Option.bind_some _ _).symm.trans H; with_reducible exact d7) | with_reducible exact H | (rw [n3]; exact H) | exact H
               have B2 := Aside0.mk n3
               clear n3
               obtain ⟨f5, n4⟩ : ∃ y_ : List Int, y_ = (([0] : List Int)) := ⟨_, rfl⟩
               replace H : (if a7.length + f5.length < 140737488355328 then (pats_one.l0 e2 l0 false false d3 l0 (l0.length : Int) (wrap64 (a2 + 1)) i9 (a7 ++ f5)) else (none)) = some (r1, r2, r3) := by first | (rw [n4]; with_reducible exact H) | (have d7 := (Option.bind_some _ _).symm.trans H; rw [n4]; with_reducible exact d7) | (have d7 := (Option.bind_some _ _).symm.trans H; with_reducible exact d7) | with_reducible exact H | (rw [n4]; exact H) | exact H
               have k9 := Aside0.mk n4
               clear n4
               by_cases B3 : a7.length + f5.length < 140737488355328
               ·rw [if_pos B3] at H
                have L9 := Aside0.mk B3
                clear B3
                obtain ⟨t5, n5⟩ : ∃ y_ : List Int, y_ = (a7 ++ f5) := ⟨_, rfl⟩
                replace H : (pats_one.l0 e2 l0 false false d3 l0 (l0.length : Int) (wrap64 (a2 + 1)) i9 t5) = some (r1, r2, r3) := by first | (rw [n5]; with_reducible exact H) | (have d7 := (Option.bind_some _ _).symm.trans H; rw [n5]; with_reducible exact d7) | (have d7 := (Option.bind_some _ _).symm.trans H; with_reducible exact d7) | with_reducible exact H | (rw [n5]; exact H) | exact H
                have O4 := Aside0.mk n5
                clear n5
                have H' := Aside0.mk H
                clear H
                have ae2 := e1.out
                have ae3 := b9.out
                have ae4 := c8.out
                have ae5 := b7.out
                have S5 : wc.cell? ⟨a8, 0, none⟩ = some (.int .i32 ((rd_T66 l0 a2).f0)) := (blk_cell a1.out 0).trans rfl
                have S6 : wc.cell? ⟨a8, 1, none⟩ = some (.int .i64 ((rd_T66 l0 a2).f1)) := (blk_cell a1.out 1).trans rfl
                have S7 : wc.cell? ⟨a8, 2, none⟩ = some (.int .i64 ((rd_T66 l0 a2).f2)) := (blk_cell a1.out 2).trans rfl
                have S8 := blk_frozen a1.out 0
                have S9 := blk_frozen a1.out 1
                have T0 := blk_frozen a1.out 2
                obtain ⟨h0, h1, O5⟩ := Kd.R_slice a4.out
                subst O5
                try go_wp2
                have b0 := Aside0.mk (Kd.R_drew a6.out)
                have b1 := Aside0.mk (Kd.R_drew a4.out)
                have b2 := Aside0.mk (blk_drew a3.out)
                have b3 := Aside0.mk (blk_drew a0.out)
                have b4 := Aside0.mk (blk_drew a1.out)
                have b5 := Aside0.mk (below_drew1 HB.out)
                clear a6
                clear a4
                clear a3
                clear a0
                clear a1
                clear HB
                have a6 := b0
                have a4 := b1
                have a3 := b2
                have a0 := b3
                have a1 := b4
                have HB := b5
                clear b0 b1 b2 b3 b4 b5
                refine start_ (n := 13) (S := fun w' => w'.cell? ⟨a9, 0, none⟩ = some (.slice d0 a5.length d1) ∧ w'.cell? ⟨a9, 1, none⟩ = some (.slice h0 a7.length h1)) (ds := [9, 11]) #[false, false, false, false, false, false, false, false, false, false, false, false, false] (by kernel_rfl) rfl rfl ⟨(blk_cell a0.out 0).trans rfl, (blk_cell a0.out 1).trans rfl⟩ (fun hHeld => ?_); refine with_tabW pats_one.tab24 pats_one.bits24 (fun HT_ HW_ => ?_)
                generalize wc.drew = ao8 at a6 a4 a3 a0 a1 HB hHeld ⊢
                refine pure_ (i := 0) (N := some 118) (v := ?_) (a' := ?_) #[true, false, false, false, false, false, false, false, false, false, false, false, false] rfl rfl (any_of HT_.out (by kernel_rfl)) (fun _ _ _ h => h) (Or.inl ⟨by rfl, ?_⟩) ?_ ?_
                rotate_left
                ·intro w'
                 go_simp
                 with_reducible rfl
                rotate_left
                ·simp only [Act.put, List.setIfInBounds_toArray, List.set_cons_zero, List.set_cons_succ, i64_w, i32_w]
                 rfl
                refine pure_ (i := 4) (N := some 122) (v := ?_) (a' := ?_) #[true, false, false, false, true, false, false, false, false, false, false, false, false] rfl rfl (any_of HT_.out (by kernel_rfl)) (fun _ _ _ h => h) (Or.inl ⟨by rfl, ?_⟩) ?_ ?_
                rotate_left
                ·intro w'
                 go_simp
                 with_reducible rfl
                rotate_left
                ·simp only [Act.put, List.setIfInBounds_toArray, List.set_cons_zero, List.set_cons_succ, i64_w, i32_w]
                 rfl
                refine take_ (i := 1) (N := some 119) (v := ?_) (a' := ?_) #[true, true, false, false, true, false, false, false, false, false, false, false, false] rfl rfl (take_ofW HT_.out HW_.out (by kernel_rfl)) (fun _ _ _ h => h) (Or.inl ⟨by rfl, ?_⟩) hHeld ?_ ?_
                rotate_left
                ·rintro w' ⟨s0, s1⟩
                 go_simp
                 with_reducible rfl
                rotate_left
                ·simp only [Act.put, List.setIfInBounds_toArray, List.set_cons_zero, List.set_cons_succ, i64_w, i32_w]
                 rfl
                refine take_ (i := 5) (N := some 123) (v := ?_) (a' := ?_) #[true, true, false, false, true, true, false, false, false, false, false, false, false] rfl rfl (take_ofW HT_.out HW_.out (by kernel_rfl)) (fun _ _ _ h => h) (Or.inl ⟨by rfl, ?_⟩) hHeld ?_ ?_
                rotate_left
                ·rintro w' ⟨s0, s1⟩
                 go_simp
                 with_reducible rfl
                rotate_left
                ·simp only [Act.put, List.setIfInBounds_toArray, List.set_cons_zero, List.set_cons_succ, i64_w, i32_w]
                 rfl
                refine join_ (σ := Value × Value × Value) 5 #[true, true, true, true, true, true, true, false, true, false, false, false, false] (fun s_ => [(120, s_.1), (121, s_.2.1), (124, s_.2.2), (126, .pointer (some ⟨a9, 0, none⟩))]) (fun s_ w' => (w'.cell? ⟨a9, 0, none⟩ = some (.slice d0 a5.length d1) ∧ w'.cell? ⟨a9, 1, none⟩ = some (.slice h0 a7.length h1)) ∧ (Kd.R (Kd.int .i32) 21 w' w.heap.size (fun k_ => some k_ ≠ (s_.2.1 : Value).ownBlock) s_.1 f3) ∧ (Kd.R (Kd.int .i32) 21 w' w.heap.size (fun k_ => some k_ ≠ (s_.1 : Value).ownBlock) s_.2.1 i9) ∧ (Kd.R (Kd.int .u8) 5 w' w.heap.size (fun k_ => some k_ ≠ (.slice h0 a7.length h1 : Value).ownBlock) s_.2.2 f5) ∧ (Kd.R (Kd.int .u8) 5 w' w.heap.size (fun k_ => some k_ ≠ (s_.2.2 : Value).ownBlock) (.slice h0 a7.length h1) a7) ∧ (w'.heap[b6]? = some (.cells #[.slice none 0 0, .slice none 0 0] 39 (0, 0))) ∧ (w'.heap[a9]? = some (.cells #[.slice d0 a5.length d1, .slice h0 a7.length h1] 39 (0, 0))) ∧ (w'.heap[a8]? = some (.cells #[.int .i32 ((rd_T66 l0 a2).f0), .int .i64 ((rd_T66 l0 a2).f1), .int .i64 ((rd_T66 l0 a2).f2)] 66 (0, 0))) ∧ (Below w.heap.size w w')) ?_ ?_
                rotate_left
                ·intro hCont
                 refine two_ (i := 2) (j := 6) (Ni := some 120) (Nj := some 124) #[true, true, true, false, true, true, false, false, false, false, false, false, false] #[true, true, false, false, true, true, true, false, false, false, false, false, false] rfl rfl rfl rfl (two_of HT_.out (by kernel_rfl)) (by decide) (by decide) (fun K hK => ?_) (fun K hK => ?_)
                 ·skip
                  refine Kd.R_lit_step (Kd.int .i32) _ 21 ?hg (N := 120) ?hd (xs := ([46] : List Int)) (inner := [.int .i32 46]) (ok := fun _ => True) (okp := fun _ => True) ?hr ?hp (fun _ hk => hk) trivial (Below.refl _ _) (Nat.le_refl _) (by simp) ?_; (case hd => rfl); (case hg => rfl); (case hr => first | (go_simp; done) | (go_simp; rfl)); (case hp => exact (Reps.one (show Kd.M (Kd.int .i32) _ _ _ 46 [.int .i32 46] from rfl) (Reps.none _ _)))
                  intro B4 T1 h2 hb hg_ hnew_
                  clear hg_ hnew_
                  (first | rw [← q4.out] at h2 | (simp only [Int.reduceToNat] at h2; rw [← q4.out] at h2))
                  have b0 := Aside0.mk (Kd.R_elder' (by exact a6.out) (Kd.R_base h2) hb)
                  have b1 := Aside0.mk (Kd.R_below (by exact a4.out) hb)
                  have b2 := Aside0.mk (Kd.R_lower (Kd.R_new' h2 (Kd.R_lt (by exact a6.out))) (below_size (HB.out)))
                  have b3 := Aside0.mk (blk_below a3.out hb)
                  have b4 := Aside0.mk (blk_below a0.out hb)
                  have b5 := Aside0.mk (blk_below a1.out hb)
                  have b8 := Aside0.mk (below_step (HB.out) hb)
                  clear a6
                  clear a4
                  clear a3
                  clear a0
                  clear a1
                  clear HB
                  have a6 := b0
                  have a4 := b1
                  have d9 := b2
                  have a3 := b3
                  have a0 := b4
                  have a1 := b5
                  have HB := b8
                  clear b0 b1 b2 b3 b4 b5 b8
                  clear hb h2
                  obtain ⟨G6, G7, G8⟩ := Kd.R_slice d9.out
                  (first | subst G8 | (injection G8 with d4 e3 d5; have e4 := d4.symm; have e5 := d5.symm; clear d4 e3 d5; subst e4; subst e5))
                  refine hK.out _ _ ⟨(blk_cell a0.out 0).trans rfl, (blk_cell a0.out 1).trans rfl⟩ (fun hHeld => ?_)
                  clear hK K
                  refine norm_ (a' := ?_) ?_ ?_
                  rotate_left
                  ·show Act.put _ (some 120) _ = _
                   simp only [Act.put, List.setIfInBounds_toArray, List.set_cons_zero, List.set_cons_succ, i64_w, i32_w]
                   rfl
                  refine two_ (i := 3) (j := 6) (Ni := some 121) (Nj := some 124) #[true, true, true, true, true, true, false, false, false, false, false, false, false] #[true, true, true, false, true, true, true, false, false, false, false, false, false] rfl rfl rfl rfl (two_of HT_.out (by kernel_rfl)) (by decide) (by decide) (fun K hK => ?_) (fun K hK => ?_)
                  ·skip
                   refine Kd.R_append_rows_step (Kd.int .i32) (w0 := w) w.heap.size (by rfl) (.tmp 119) (.tmp 120) 23 21 (.int .i32 0) 4 rfl Try.underlying23 info21 rfl (by decide) (by omega) (.slice d0 a5.length d1) a5 f3 _ _ _ (fun k_ => some k_ ≠ (.slice G6 f3.length G7 : Value).ownBlock) (fun _ => False) rfl rfl ?aO ?aR (fun _ _ h => h) (fun _ h => h.elim) ?aF ?aB ?aS ?aL ?_
                   (case aR => repeat (first | exact (Kd.R_reads' d9.out).2.2 | (with_reducible refine Kd.C_alloc ?_ _) | (with_reducible refine Kd.C_drewN ?_ _) | (with_reducible refine Kd.C_drew ?_)))
                   (case aB => exact (HB.out))
                   (case aF => exact (fun k_ hk => Kd.fresh' (Kd.R_lt (by exact d9.out)) k_ hk))
                   (case aO => exact (by exact Kd.R_mono a6.out (fun _ hk => hk.2)))
                   (case aS => exact (below_size (HB.out)))
                   (case aL => have := t4.out; omega)
                   intro k2 M0 ho hb hg hat
                   rw [← B2.out] at ho
                   have b0 := Aside0.mk (Kd.R_over' (by exact a4.out) (Kd.R_typed (by exact a6.out)) (by decide) hg)
                   have b1 := Aside0.mk (blk_grown a3.out hg (Kd.R_ne a6.out a3.out (by decide)))
                   have b2 := Aside0.mk (blk_grown a0.out hg (Kd.R_ne a6.out a0.out (by decide)))
                   have b3 := Aside0.mk (blk_grown a1.out hg (Kd.R_ne a6.out a1.out (by decide)))
                   have b4 := Aside0.mk (Kd.R_after (ok := (fun _ => True)) (by exact d9.out) hg hat)
                   have b5 := Aside0.mk (hb)
                   have b8 := Aside0.mk (ho)
                   clear a4
                   clear a3
                   clear a0
                   clear a1
                   clear d9
                   clear HB
                   clear a6
                   have a4 := b0
                   have a3 := b1
                   have a0 := b2
                   have a1 := b3
                   have d9 := b4
                   have HB := b5
                   have f8 := b8
                   clear b0 b1 b2 b3 b4 b5 b8
                   clear ho hb hg hat
                   refine hK.out _ _ ⟨(blk_cell a0.out 0).trans rfl, (blk_cell a0.out 1).trans rfl⟩ (fun hHeld => ?_)
                   clear hK K
                   refine norm_ (a' := ?_) ?_ ?_
                   rotate_left
                   ·show Act.put _ (some 121) _ = _
                    simp only [Act.put, List.setIfInBounds_toArray, List.set_cons_zero, List.set_cons_succ, i64_w, i32_w]
                    rfl
                   refine pure_ (i := 8) (N := some 126) (v := ?_) (a' := ?_) #[true, true, true, true, true, true, false, false, true, false, false, false, false] rfl rfl (any_of HT_.out (by kernel_rfl)) (fun _ _ _ h => h) (Or.inl ⟨by rfl, ?_⟩) ?_ ?_
                   rotate_left
                   ·intro w'
                    go_simp
                    with_reducible rfl
                   rotate_left
                   ·simp only [Act.put, List.setIfInBounds_toArray, List.set_cons_zero, List.set_cons_succ, i64_w, i32_w]
                    rfl
                   refine one_ (i := 6) (N := some 124) #[true, true, true, true, true, true, true, false, true, false, false, false, false] rfl rfl (one_of HT_.out (by kernel_rfl)) (by decide) (fun K hK => ?_)
                   refine Kd.R_lit_step (Kd.int .u8) _ 5 ?hg (N := 124) ?hd (xs := ([0] : List Int)) (inner := [.int .u8 0]) (ok := fun _ => True) (okp := fun _ => True) ?hr ?hp (fun _ hk => hk) trivial (Below.refl _ _) (Nat.le_refl _) (by simp) ?_; (case hd => rfl); (case hg => rfl); (case hr => first | (go_simp; done) | (go_simp; rfl)); (case hp => exact (Reps.one (show Kd.M (Kd.int .u8) _ _ _ 0 [.int .u8 0] from rfl) (Reps.none _ _)))
                   intro k3 M1 l1 hb hg_ hnew_
                   clear hg_ hnew_
                   (first | rw [← k9.out] at l1 | (simp only [Int.reduceToNat] at l1; rw [← k9.out] at l1))
                   have b0 := Aside0.mk (Kd.R_elder' (by exact a4.out) (Kd.R_base l1) hb)
                   have b1 := Aside0.mk (Kd.R_below (by exact d9.out) hb)
                   have b2 := Aside0.mk (Kd.R_below (by exact f8.out) hb)
                   have b3 := Aside0.mk (Kd.R_lower (Kd.R_new' l1 (Kd.R_lt (by exact a4.out))) (below_size (HB.out)))
                   have b4 := Aside0.mk (blk_below a3.out hb)
                   have b5 := Aside0.mk (blk_below a0.out hb)
                   have b8 := Aside0.mk (blk_below a1.out hb)
                   have d2 := Aside0.mk (below_step (HB.out) hb)
                   clear a4
                   clear d9
                   clear f8
                   clear a3
                   clear a0
                   clear a1
                   clear HB
                   have a4 := b0
                   have d9 := b1
                   have f8 := b2
                   have e7 := b3
                   have a3 := b4
                   have a0 := b5
                   have a1 := b8
                   have HB := d2
                   clear b0 b1 b2 b3 b4 b5 b8 d2
                   clear hb l1
                   refine hK.out _ _ ⟨(blk_cell a0.out 0).trans rfl, (blk_cell a0.out 1).trans rfl⟩ (fun hHeld => ?_)
                   clear hK K
                   refine norm_ (a' := ?_) ?_ ?_
                   rotate_left
                   ·show Act.put _ (some 124) _ = _
                    simp only [Act.put, List.setIfInBounds_toArray, List.set_cons_zero, List.set_cons_succ, i64_w, i32_w]
                    rfl
                   exact norm_ (by simp only [putAll, Act.put, List.setIfInBounds_toArray, List.set_cons_zero, List.set_cons_succ]) (hCont (.slice G6 f3.length G7, k2, k3) _ ⟨hHeld, (by exact Kd.R_mono d9.out (fun _ hk => hk.2)), (by exact f8.out), (by exact Kd.R_mono e7.out (fun _ hk => hk.2)), (by exact Kd.R_mono a4.out (fun _ hk => hk.2)), (by exact a3.out), (by exact a0.out), (by exact a1.out), (HB.out)⟩)
                  ·skip
                   refine Kd.R_lit_step (Kd.int .u8) _ 5 ?hg (N := 124) ?hd (xs := ([0] : List Int)) (inner := [.int .u8 0]) (ok := fun _ => True) (okp := fun _ => True) ?hr ?hp (fun _ hk => hk) trivial (Below.refl _ _) (Nat.le_refl _) (by simp) ?_; (case hd => rfl); (case hg => rfl); (case hr => first | (go_simp; done) | (go_simp; rfl)); (case hp => exact (Reps.one (show Kd.M (Kd.int .u8) _ _ _ 0 [.int .u8 0] from rfl) (Reps.none _ _)))
                   intro k3 M0 h3 hb hg_ hnew_
                   clear hg_ hnew_
                   (first | rw [← k9.out] at h3 | (simp only [Int.reduceToNat] at h3; rw [← k9.out] at h3))
                   have b0 := Aside0.mk (Kd.R_below (by exact a6.out) hb)
                   have b1 := Aside0.mk (Kd.R_elder' (by exact a4.out) (Kd.R_base h3) hb)
                   have b2 := Aside0.mk (Kd.R_below (by exact d9.out) hb)
                   have b3 := Aside0.mk (Kd.R_lower (Kd.R_new' h3 (Kd.R_lt (by exact a4.out))) (below_size (HB.out)))
                   have b4 := Aside0.mk (blk_below a3.out hb)
                   have b5 := Aside0.mk (blk_below a0.out hb)
                   have b8 := Aside0.mk (blk_below a1.out hb)
                   have d2 := Aside0.mk (below_step (HB.out) hb)
                   clear a6
                   clear a4
                   clear d9
                   clear a3
                   clear a0
                   clear a1
                   clear HB
                   have a6 := b0
                   have a4 := b1
                   have d9 := b2
                   have e7 := b3
                   have a3 := b4
                   have a0 := b5
                   have a1 := b8
                   have HB := d2
                   clear b0 b1 b2 b3 b4 b5 b8 d2
                   clear hb h3
                   obtain ⟨n6, n7, n8⟩ := Kd.R_slice d9.out
                   (first | subst n8 | (injection n8 with d4 e3 d5; have e4 := d4.symm; have e5 := d5.symm; clear d4 e3 d5; subst e4; subst e5))
                   refine hK.out _ _ ⟨(blk_cell a0.out 0).trans rfl, (blk_cell a0.out 1).trans rfl⟩ (fun hHeld => ?_)
                   clear hK K
                   refine norm_ (a' := ?_) ?_ ?_
                   rotate_left
                   ·show Act.put _ (some 124) _ = _
                    simp only [Act.put, List.setIfInBounds_toArray, List.set_cons_zero, List.set_cons_succ, i64_w, i32_w]
                    rfl
                   refine one_ (i := 3) (N := some 121) #[true, true, true, true, true, true, true, false, false, false, false, false, false] rfl rfl (one_of HT_.out (by kernel_rfl)) (by decide) (fun K hK => ?_)
                   refine Kd.R_append_rows_step (Kd.int .i32) (w0 := w) w.heap.size (by rfl) (.tmp 119) (.tmp 120) 23 21 (.int .i32 0) 4 rfl Try.underlying23 info21 rfl (by decide) (by omega) (.slice d0 a5.length d1) a5 f3 _ _ _ (fun k_ => some k_ ≠ (.slice n6 f3.length n7 : Value).ownBlock) (fun _ => False) rfl rfl ?aO ?aR (fun _ _ h => h) (fun _ h => h.elim) ?aF ?aB ?aS ?aL ?_
                   (case aR => repeat (first | exact (Kd.R_reads' d9.out).2.2 | (with_reducible refine Kd.C_alloc ?_ _) | (with_reducible refine Kd.C_drewN ?_ _) | (with_reducible refine Kd.C_drew ?_)))
                   (case aB => exact (HB.out))
                   (case aF => exact (fun k_ hk => Kd.fresh' (Kd.R_lt (by exact d9.out)) k_ hk))
                   (case aO => exact (by exact Kd.R_mono a6.out (fun _ hk => hk.2)))
                   (case aS => exact (below_size (HB.out)))
                   (case aL => have := t4.out; omega)
                   intro k2 M1 ho hb hg hat
                   rw [← B2.out] at ho
                   have b0 := Aside0.mk (Kd.R_over' (by exact a4.out) (Kd.R_typed (by exact a6.out)) (by decide) hg)
                   have b1 := Aside0.mk (blk_grown a3.out hg (Kd.R_ne a6.out a3.out (by decide)))
                   have b2 := Aside0.mk (blk_grown a0.out hg (Kd.R_ne a6.out a0.out (by decide)))
                   have b3 := Aside0.mk (blk_grown a1.out hg (Kd.R_ne a6.out a1.out (by decide)))
                   have b4 := Aside0.mk (Kd.R_after (ok := (fun _ => True)) (by exact d9.out) hg hat)
                   have b5 := Aside0.mk (Kd.R_over' (by exact e7.out) (Kd.R_typed (by exact a6.out)) (by decide) hg)
                   have b8 := Aside0.mk (hb)
                   have d2 := Aside0.mk (ho)
                   clear a4
                   clear a3
                   clear a0
                   clear a1
                   clear d9
                   clear e7
                   clear HB
                   clear a6
                   have a4 := b0
                   have a3 := b1
                   have a0 := b2
                   have a1 := b3
                   have d9 := b4
                   have e7 := b5
                   have HB := b8
                   have f8 := d2
                   clear b0 b1 b2 b3 b4 b5 b8 d2
                   clear ho hb hg hat
                   refine hK.out _ _ ⟨(blk_cell a0.out 0).trans rfl, (blk_cell a0.out 1).trans rfl⟩ (fun hHeld => ?_)
                   clear hK K
                   refine norm_ (a' := ?_) ?_ ?_
                   rotate_left
                   ·show Act.put _ (some 121) _ = _
                    simp only [Act.put, List.setIfInBounds_toArray, List.set_cons_zero, List.set_cons_succ, i64_w, i32_w]
                    rfl
                   refine pure_ (i := 8) (N := some 126) (v := ?_) (a' := ?_) #[true, true, true, true, true, true, true, false, true, false, false, false, false] rfl rfl (any_of HT_.out (by kernel_rfl)) (fun _ _ _ h => h) (Or.inl ⟨by rfl, ?_⟩) ?_ ?_
                   rotate_left
                   ·intro w'
                    go_simp
                    with_reducible rfl
                   rotate_left
                   ·simp only [Act.put, List.setIfInBounds_toArray, List.set_cons_zero, List.set_cons_succ, i64_w, i32_w]
                    rfl
                   exact norm_ (by simp only [putAll, Act.put, List.setIfInBounds_toArray, List.set_cons_zero, List.set_cons_succ]) (hCont (.slice n6 f3.length n7, k2, k3) _ ⟨hHeld, (by exact Kd.R_mono d9.out (fun _ hk => hk.2)), (by exact f8.out), (by exact Kd.R_mono e7.out (fun _ hk => hk.2)), (by exact Kd.R_mono a4.out (fun _ hk => hk.2)), (by exact a3.out), (by exact a0.out), (by exact a1.out), (HB.out)⟩)
                 ·skip
                  refine Kd.R_lit_step (Kd.int .u8) _ 5 ?hg (N := 124) ?hd (xs := ([0] : List Int)) (inner := [.int .u8 0]) (ok := fun _ => True) (okp := fun _ => True) ?hr ?hp (fun _ hk => hk) trivial (Below.refl _ _) (Nat.le_refl _) (by simp) ?_; (case hd => rfl); (case hg => rfl); (case hr => first | (go_simp; done) | (go_simp; rfl)); (case hp => exact (Reps.one (show Kd.M (Kd.int .u8) _ _ _ 0 [.int .u8 0] from rfl) (Reps.none _ _)))
                  intro k3 T1 h2 hb hg_ hnew_
                  clear hg_ hnew_
                  (first | rw [← k9.out] at h2 | (simp only [Int.reduceToNat] at h2; rw [← k9.out] at h2))
                  have b0 := Aside0.mk (Kd.R_below (by exact a6.out) hb)
                  have b1 := Aside0.mk (Kd.R_elder' (by exact a4.out) (Kd.R_base h2) hb)
                  have b2 := Aside0.mk (Kd.R_lower (Kd.R_new' h2 (Kd.R_lt (by exact a4.out))) (below_size (HB.out)))
                  have b3 := Aside0.mk (blk_below a3.out hb)
                  have b4 := Aside0.mk (blk_below a0.out hb)
                  have b5 := Aside0.mk (blk_below a1.out hb)
                  have b8 := Aside0.mk (below_step (HB.out) hb)
                  clear a6
                  clear a4
                  clear a3
                  clear a0
                  clear a1
                  clear HB
                  have a6 := b0
                  have a4 := b1
                  have e7 := b2
                  have a3 := b3
                  have a0 := b4
                  have a1 := b5
                  have HB := b8
                  clear b0 b1 b2 b3 b4 b5 b8
                  clear hb h2
                  refine hK.out _ _ ⟨(blk_cell a0.out 0).trans rfl, (blk_cell a0.out 1).trans rfl⟩ (fun hHeld => ?_)
                  clear hK K
                  refine norm_ (a' := ?_) ?_ ?_
                  rotate_left
                  ·show Act.put _ (some 124) _ = _
                   simp only [Act.put, List.setIfInBounds_toArray, List.set_cons_zero, List.set_cons_succ, i64_w, i32_w]
                   rfl
                  refine one_ (i := 2) (N := some 120) #[true, true, true, false, true, true, true, false, false, false, false, false, false] rfl rfl (one_of HT_.out (by kernel_rfl)) (by decide) (fun K hK => ?_)
                  refine Kd.R_lit_step (Kd.int .i32) _ 21 ?hg (N := 120) ?hd (xs := ([46] : List Int)) (inner := [.int .i32 46]) (ok := fun _ => True) (okp := fun _ => True) ?hr ?hp (fun _ hk => hk) trivial (Below.refl _ _) (Nat.le_refl _) (by simp) ?_; (case hd => rfl); (case hg => rfl); (case hr => first | (go_simp; done) | (go_simp; rfl)); (case hp => exact (Reps.one (show Kd.M (Kd.int .i32) _ _ _ 46 [.int .i32 46] from rfl) (Reps.none _ _)))
                  intro B4 M0 h3 hb hg_ hnew_
                  clear hg_ hnew_
                  (first | rw [← q4.out] at h3 | (simp only [Int.reduceToNat] at h3; rw [← q4.out] at h3))
                  have b0 := Aside0.mk (Kd.R_elder' (by exact a6.out) (Kd.R_base h3) hb)
                  have b1 := Aside0.mk (Kd.R_below (by exact a4.out) hb)
                  have b2 := Aside0.mk (Kd.R_below (by exact e7.out) hb)
                  have b3 := Aside0.mk (Kd.R_lower (Kd.R_new' h3 (Kd.R_lt (by exact a6.out))) (below_size (HB.out)))
                  have b4 := Aside0.mk (blk_below a3.out hb)
                  have b5 := Aside0.mk (blk_below a0.out hb)
                  have b8 := Aside0.mk (blk_below a1.out hb)
                  have d2 := Aside0.mk (below_step (HB.out) hb)
                  clear a6
                  clear a4
                  clear e7
                  clear a3
                  clear a0
                  clear a1
                  clear HB
                  have a6 := b0
                  have a4 := b1
                  have e7 := b2
                  have d9 := b3
                  have a3 := b4
                  have a0 := b5
                  have a1 := b8
                  have HB := d2
                  clear b0 b1 b2 b3 b4 b5 b8 d2
                  clear hb h3
                  obtain ⟨n6, n7, n8⟩ := Kd.R_slice d9.out
                  (first | subst n8 | (injection n8 with d4 e3 d5; have e4 := d4.symm; have e5 := d5.symm; clear d4 e3 d5; subst e4; subst e5))
                  refine hK.out _ _ ⟨(blk_cell a0.out 0).trans rfl, (blk_cell a0.out 1).trans rfl⟩ (fun hHeld => ?_)
                  clear hK K
                  refine norm_ (a' := ?_) ?_ ?_
                  rotate_left
                  ·show Act.put _ (some 120) _ = _
                   simp only [Act.put, List.setIfInBounds_toArray, List.set_cons_zero, List.set_cons_succ, i64_w, i32_w]
                   rfl
                  refine one_ (i := 3) (N := some 121) #[true, true, true, true, true, true, true, false, false, false, false, false, false] rfl rfl (one_of HT_.out (by kernel_rfl)) (by decide) (fun K hK => ?_)
                  refine Kd.R_append_rows_step (Kd.int .i32) (w0 := w) w.heap.size (by rfl) (.tmp 119) (.tmp 120) 23 21 (.int .i32 0) 4 rfl Try.underlying23 info21 rfl (by decide) (by omega) (.slice d0 a5.length d1) a5 f3 _ _ _ (fun k_ => some k_ ≠ (.slice n6 f3.length n7 : Value).ownBlock) (fun _ => False) rfl rfl ?aO ?aR (fun _ _ h => h) (fun _ h => h.elim) ?aF ?aB ?aS ?aL ?_
                  (case aR => repeat (first | exact (Kd.R_reads' d9.out).2.2 | (with_reducible refine Kd.C_alloc ?_ _) | (with_reducible refine Kd.C_drewN ?_ _) | (with_reducible refine Kd.C_drew ?_)))
                  (case aB => exact (HB.out))
                  (case aF => exact (fun k_ hk => Kd.fresh' (Kd.R_lt (by exact d9.out)) k_ hk))
                  (case aO => exact (by exact Kd.R_mono a6.out (fun _ hk => hk.2)))
                  (case aS => exact (below_size (HB.out)))
                  (case aL => have := t4.out; omega)
                  intro k2 M1 ho hb hg hat
                  rw [← B2.out] at ho
                  have b0 := Aside0.mk (Kd.R_over' (by exact a4.out) (Kd.R_typed (by exact a6.out)) (by decide) hg)
                  have b1 := Aside0.mk (blk_grown a3.out hg (Kd.R_ne a6.out a3.out (by decide)))
                  have b2 := Aside0.mk (blk_grown a0.out hg (Kd.R_ne a6.out a0.out (by decide)))
                  have b3 := Aside0.mk (blk_grown a1.out hg (Kd.R_ne a6.out a1.out (by decide)))
                  have b4 := Aside0.mk (Kd.R_over' (by exact e7.out) (Kd.R_typed (by exact a6.out)) (by decide) hg)
                  have b5 := Aside0.mk (Kd.R_after (ok := (fun _ => True)) (by exact d9.out) hg hat)
                  have b8 := Aside0.mk (hb)
                  have d2 := Aside0.mk (ho)
                  clear a4
                  clear a3
                  clear a0
                  clear a1
                  clear e7
                  clear d9
                  clear HB
                  clear a6
                  have a4 := b0
                  have a3 := b1
                  have a0 := b2
                  have a1 := b3
                  have e7 := b4
                  have d9 := b5
                  have HB := b8
                  have f8 := d2
                  clear b0 b1 b2 b3 b4 b5 b8 d2
                  clear ho hb hg hat
                  refine hK.out _ _ ⟨(blk_cell a0.out 0).trans rfl, (blk_cell a0.out 1).trans rfl⟩ (fun hHeld => ?_)
                  clear hK K
                  refine norm_ (a' := ?_) ?_ ?_
                  rotate_left
                  ·show Act.put _ (some 121) _ = _
                   simp only [Act.put, List.setIfInBounds_toArray, List.set_cons_zero, List.set_cons_succ, i64_w, i32_w]
                   rfl
                  refine pure_ (i := 8) (N := some 126) (v := ?_) (a' := ?_) #[true, true, true, true, true, true, true, false, true, false, false, false, false] rfl rfl (any_of HT_.out (by kernel_rfl)) (fun _ _ _ h => h) (Or.inl ⟨by rfl, ?_⟩) ?_ ?_
                  rotate_left
                  ·intro w'
                   go_simp
                   with_reducible rfl
                  rotate_left
                  ·simp only [Act.put, List.setIfInBounds_toArray, List.set_cons_zero, List.set_cons_succ, i64_w, i32_w]
                   rfl
                  exact norm_ (by simp only [putAll, Act.put, List.setIfInBounds_toArray, List.set_cons_zero, List.set_cons_succ]) (hCont (.slice n6 f3.length n7, k2, k3) _ ⟨hHeld, (by exact Kd.R_mono d9.out (fun _ hk => hk.2)), (by exact f8.out), (by exact Kd.R_mono e7.out (fun _ hk => hk.2)), (by exact Kd.R_mono a4.out (fun _ hk => hk.2)), (by exact a3.out), (by exact a0.out), (by exact a1.out), (HB.out)⟩)
                rintro ⟨B4, k2, k3⟩ j0 ⟨hS_, h0_, h1_, h2_, h3_, h4_, h5_, h6_, h7_⟩
                have b0 : Aside0 (Kd.R (Kd.int .i32) 21 j0 w.heap.size (fun k_ => some k_ ≠ (k2 : Value).ownBlock) B4 f3) := ⟨h0_⟩
                have b1 : Aside0 (Kd.R (Kd.int .i32) 21 j0 w.heap.size (fun k_ => some k_ ≠ (B4 : Value).ownBlock) k2 i9) := ⟨h1_⟩
                have b2 : Aside0 (Kd.R (Kd.int .u8) 5 j0 w.heap.size (fun k_ => some k_ ≠ (.slice h0 a7.length h1 : Value).ownBlock) k3 f5) := ⟨h2_⟩
                have b3 : Aside0 (Kd.R (Kd.int .u8) 5 j0 w.heap.size (fun k_ => some k_ ≠ (k3 : Value).ownBlock) (.slice h0 a7.length h1) a7) := ⟨h3_⟩
                have b4 : Aside0 (j0.heap[b6]? = some (.cells #[.slice none 0 0, .slice none 0 0] 39 (0, 0))) := ⟨h4_⟩
                have b5 : Aside0 (j0.heap[a9]? = some (.cells #[.slice d0 a5.length d1, .slice h0 a7.length h1] 39 (0, 0))) := ⟨h5_⟩
                have b8 : Aside0 (j0.heap[a8]? = some (.cells #[.int .i32 ((rd_T66 l0 a2).f0), .int .i64 ((rd_T66 l0 a2).f1), .int .i64 ((rd_T66 l0 a2).f2)] 66 (0, 0))) := ⟨h6_⟩
                have d2 : Aside0 (Below w.heap.size w j0) := ⟨h7_⟩
                clear a6
                clear a4
                clear a3
                clear a0
                clear a1
                clear HB
                clear h0_ h1_ h2_ h3_ h4_ h5_ h6_ h7_
                have d9 := b0
                have f8 := b1
                have e7 := b2
                have a4 := b3
                have a3 := b4
                have a0 := b5
                have a1 := b8
                have HB := d2
                clear b0 b1 b2 b3 b4 b5 b8 d2
                have hHeld : j0.cell? ⟨a9, 0, none⟩ = some (.slice d0 a5.length d1) ∧ j0.cell? ⟨a9, 1, none⟩ = some (.slice h0 a7.length h1) := hS_
                obtain ⟨O6, O7, G9⟩ := Kd.R_slice e7.out
                (first | subst G9 | (injection G9 with d4 e3 d5; have e4 := d4.symm; have e5 := d5.symm; clear d4 e3 d5; subst e4; subst e5))
                refine norm_ (a' := ?_) ?_ ?_
                rotate_left
                ·simp only [putAll, Act.put, List.setIfInBounds_toArray, List.set_cons_zero, List.set_cons_succ]
                 rfl
                refine one_ (i := 7) (N := some 125) #[true, true, true, true, true, true, true, true, true, false, false, false, false] rfl rfl (one_of HT_.out (by kernel_rfl)) (by decide) (fun K hK => ?_)
                refine Kd.R_append_rows_step (Kd.int .u8) (w0 := w) w.heap.size (by rfl) (.tmp 123) (.tmp 124) 27 5 (.int .u8 0) 1 rfl Try.underlying27 info5 rfl (by decide) (by omega) (.slice h0 a7.length h1) a7 f5 _ _ _ (fun k_ => some k_ ≠ (.slice O6 f5.length O7 : Value).ownBlock) (fun _ => False) rfl rfl ?aO ?aR (fun _ _ h => h) (fun _ h => h.elim) ?aF ?aB ?aS ?aL ?_
                (case aR => repeat (first | exact (Kd.R_reads' e7.out).2.2 | (with_reducible refine Kd.C_alloc ?_ _) | (with_reducible refine Kd.C_drewN ?_ _) | (with_reducible refine Kd.C_drew ?_)))
                (case aB => exact (HB.out))
                (case aF => exact (fun k_ hk => Kd.fresh' (Kd.R_lt (by exact e7.out)) k_ hk))
                (case aO => exact (by exact a4.out))
                (case aS => exact (below_size (HB.out)))
                (case aL => have := L9.out; omega)
                intro ao9 M2 ho hb hg hat
                rw [← O4.out] at ho
                have b0 := Aside0.mk (blk_grown a3.out hg (Kd.R_ne a4.out a3.out (by decide)))
                have b1 := Aside0.mk (blk_grown a0.out hg (Kd.R_ne a4.out a0.out (by decide)))
                have b2 := Aside0.mk (blk_grown a1.out hg (Kd.R_ne a4.out a1.out (by decide)))
                have b3 := Aside0.mk (Kd.R_over' (by exact d9.out) (Kd.R_typed (by exact a4.out)) (by decide) hg)
                have b4 := Aside0.mk (Kd.R_over' (by exact f8.out) (Kd.R_typed (by exact a4.out)) (by decide) hg)
                have b5 := Aside0.mk (Kd.R_after (ok := (fun _ => True)) (by exact Kd.R_mono e7.out (fun _ hk => ⟨trivial, hk⟩)) hg hat)
                have b8 := Aside0.mk (hb)
                have d2 := Aside0.mk (ho)
                clear a3
                clear a0
                clear a1
                clear d9
                clear f8
                clear e7
                clear HB
                clear a4
                have a3 := b0
                have a0 := b1
                have a1 := b2
                have d9 := b3
                have f8 := b4
                have e7 := b5
                have HB := b8
                have H0 := d2
                clear b0 b1 b2 b3 b4 b5 b8 d2
                clear ho hb hg hat
                obtain ⟨q5, q6, H2⟩ := Kd.R_slice f8.out
                (first | subst H2 | (injection H2 with d4 e3 d5; have e4 := d4.symm; have e5 := d5.symm; clear d4 e3 d5; subst e4; subst e5))
                obtain ⟨B5, B6, H3⟩ := Kd.R_slice H0.out
                (first | subst H3 | (injection H3 with d4 e3 d5; have e4 := d4.symm; have e5 := d5.symm; clear d4 e3 d5; subst e4; subst e5))
                refine hK.out _ _ ⟨(blk_cell a0.out 0).trans rfl, (blk_cell a0.out 1).trans rfl⟩ (fun hHeld => ?_)
                clear hK K
                refine norm_ (a' := ?_) ?_ ?_
                rotate_left
                ·show Act.put _ (some 125) _ = _
                 simp only [Act.put, List.setIfInBounds_toArray, List.set_cons_zero, List.set_cons_succ, i64_w, i32_w]
                 rfl
                refine last_ (i := 9) (N := none) #[true, true, true, true, true, true, true, true, true, true, false, false, false] rfl rfl (one_of HT_.out (by kernel_rfl)) (by decide) (fun K hK => ?_)
                have an5 : M2.cell? ⟨a9, 0, none⟩ = some (.slice d0 a5.length d1) := (blk_cell a0.out 0).trans rfl
                have ae6 := blk_frozen a0.out 0
                have T2 := c6.out
                have T3 := c8.out
                have T4 := c7.out
                have T5 := b7.out
                refine skip_ (w1 := ?_) (by rfl) rfl ?_ ?_
                rotate_left
                ·go_simp
                 rfl
                refine hK.out _ _ ?_
                clear hK K
                refine pure_ (i := 10) (N := some 127) (v := ?_) (a' := ?_) #[true, true, true, true, true, true, true, true, true, true, true, false, false] rfl rfl (any_of HT_.out (by kernel_rfl)) (fun _ _ _ h => h) (Or.inl ⟨by rfl, ?_⟩) ?_ ?_
                rotate_left
                ·intro w'
                 go_simp
                 with_reducible rfl
                rotate_left
                ·simp only [Act.put, List.setIfInBounds_toArray, List.set_cons_zero, List.set_cons_succ, i64_w, i32_w]
                 rfl
                refine last_ (i := 11) (N := none) #[true, true, true, true, true, true, true, true, true, true, true, true, false] rfl rfl (one_of HT_.out (by kernel_rfl)) (by decide) (fun K hK => ?_)
                have an6 : M2.cell? ⟨a9, 1, none⟩ = some (.slice h0 a7.length h1) := (blk_cell a0.out 1).trans rfl
                have ae7 := blk_frozen a0.out 1
                have T6 := c6.out
                have T7 := c8.out
                have T8 := c7.out
                have T9 := b7.out
                refine skip_ (w1 := ?_) (by rfl) rfl ?_ ?_
                rotate_left
                ·go_simp
                 rfl
                refine hK.out _ _ ?_
                clear hK K
                refine pure_ (i := 12) (N := some 6) (v := ?_) (a' := ?_) #[true, true, true, true, true, true, true, true, true, true, true, true, true] rfl rfl (any_of HT_.out (by kernel_rfl)) (fun _ _ _ h => h) (Or.inl ⟨by rfl, ?_⟩) ?_ ?_
                rotate_left
                ·intro w'
                 go_simp
                 with_reducible rfl
                rotate_left
                ·simp only [Act.put, List.setIfInBounds_toArray, List.set_cons_zero, List.set_cons_succ, i64_w, i32_w]
                 rfl
                refine done_ (done_of HT_.out (by kernel_rfl)) ?_
                try go_wp2
                go_roundg e2
                case measure => have := i1.out; have := h9.out; omega
                case rel => exact ⟨(false), (d3), (wrap64 (a2 + 1)), (i9), (t5), (.slice q5 i9.length q6), (.slice B5 t5.length B6), (rfl), (rfl), (rfl), H', ⟨by have := i1.out; have := h9.out; omega⟩, ⟨by exact Kd.R_mono (Kd.R_far (p := ⟨a9, 1, none⟩) (Kd.R_far (p := ⟨a9, 0, none⟩) (Kd.R_types f8.out a0.out (by decide)) (fun _ hk => hk.2) (.slice q5 i9.length q6)) (fun _ hk => hk.2) (.slice B5 t5.length B6)) (fun _ hk => trivial)⟩, ⟨by exact Kd.R_mono (Kd.R_far (p := ⟨a9, 1, none⟩) (Kd.R_far (p := ⟨a9, 0, none⟩) (Kd.R_types H0.out a0.out (by decide)) (fun _ hk => hk.2) (.slice q5 i9.length q6)) (fun _ hk => hk.2) (.slice B5 t5.length B6)) (fun _ hk => trivial)⟩, ⟨by refine blk_far ?_ c6.out _; refine blk_far ?_ c6.out _; exact a3.out⟩, ⟨by refine blk_put (cs := #[.slice q5 i9.length q6, .slice h0 a7.length h1]) ?_ 1 _ rfl; refine blk_put (cs := #[.slice d0 a5.length d1, .slice h0 a7.length h1]) ?_ 0 _ rfl; exact a0.out⟩, ⟨by repeat (first | (with_reducible first | exact HB.out | apply below_alloc | apply pw_below_drewN | apply below_drew1 | refine below_set ?_ g1.out | refine below_set ?_ g2.out | refine below_set ?_ i0.out) | exact HB.out)⟩⟩
               ·rw [if_neg B3] at H
                exact absurd H (by simp)
              ·rw [if_neg B1] at H
               exact absurd H (by simp)
             ·rw [if_neg l5] at H
              have L7 : (a2 == (wrap64 ((l0.length : Int) - 1))) = false := beq_eq_false_iff_ne.mpr l5
              have L8 : (a2 != (wrap64 ((l0.length : Int) - 1))) = true := bne_iff_ne.mpr l5
              simp only [Option.some.injEq, Prod.mk.injEq] at H
              obtain ⟨rfl, rfl, rfl⟩ := H
              have ae8 := e1.out
              have ae9 := b9.out
              have af0 := c8.out
              have af1 := b7.out
              have U0 : wc.cell? ⟨a8, 0, none⟩ = some (.int .i32 ((rd_T66 l0 a2).f0)) := (blk_cell a1.out 0).trans rfl
              have U1 : wc.cell? ⟨a8, 1, none⟩ = some (.int .i64 ((rd_T66 l0 a2).f1)) := (blk_cell a1.out 1).trans rfl
              have U2 : wc.cell? ⟨a8, 2, none⟩ = some (.int .i64 ((rd_T66 l0 a2).f2)) := (blk_cell a1.out 2).trans rfl
              have U3 := blk_frozen a1.out 0
              have U4 := blk_frozen a1.out 1
              have U5 := blk_frozen a1.out 2
              have af2 := c7.out
              have af3 := c6.out
              have U6 : wc.cell? ⟨a9, 0, none⟩ = some (.slice d0 a5.length d1) := (blk_cell a0.out 0).trans rfl
              have U7 : wc.cell? ⟨a9, 1, none⟩ = some (i4) := (blk_cell a0.out 1).trans rfl
              have U8 := blk_frozen a0.out 0
              have U9 := blk_frozen a0.out 1
              have V0 : wc.cell? ⟨b6, 0, none⟩ = some (.slice none 0 0) := (blk_cell a3.out 0).trans rfl
              have V1 : wc.cell? ⟨b6, 1, none⟩ = some (.slice none 0 0) := (blk_cell a3.out 1).trans rfl
              have V2 := blk_frozen a3.out 0
              have V3 := blk_frozen a3.out 1
              obtain ⟨B7, B8, O8⟩ := Kd.R_slice a4.out
              subst O8
              go_wp2
              refine bodyPost_ret (results_ct rfl _ _ b6 39 #[.slice d0 a5.length d1, .slice B7 a7.length B8] (0, 0) _ rfl (by refine blk_put (cs := #[.slice d0 a5.length d1, .slice none 0 0]) ?_ 1 _ rfl; refine blk_put (cs := #[.slice none 0 0, .slice none 0 0]) ?_ 0 _ rfl; exact a3.out) Try.underlying39 rfl (by kernel_rfl)) rfl ?_
              exact ⟨_, _, rfl, by exact Kd.R_mono (Kd.R_far (p := ⟨b6, 1, none⟩) (Kd.R_far (p := ⟨b6, 0, none⟩) (Kd.R_types a6.out a3.out (by decide)) (fun _ hk => hk.2) (.slice d0 a5.length d1)) (fun _ hk => hk.2) (.slice B7 a7.length B8)) (fun _ hk => trivial), by exact Kd.R_mono (Kd.R_far (p := ⟨b6, 1, none⟩) (Kd.R_far (p := ⟨b6, 0, none⟩) (Kd.R_types a4.out a3.out (by decide)) (fun _ hk => hk.2) (.slice d0 a5.length d1)) (fun _ hk => hk.2) (.slice B7 a7.length B8)) (fun _ hk => trivial), by repeat (first | (with_reducible first | exact HB.out | apply below_alloc | apply pw_below_drewN | apply below_drew1 | refine below_set ?_ g1.out | refine below_set ?_ g2.out | refine below_set ?_ i0.out) | exact HB.out)⟩
          ·rw [if_neg t1] at H
           have N5 : (((rd_T66 l0 a2).f0) == 46) = false := beq_eq_false_iff_ne.mpr t1
           have N6 : (((rd_T66 l0 a2).f0) != 46) = true := bne_iff_ne.mpr t1
           obtain ⟨f6, n9⟩ : ∃ y_ : List Int, y_ = (([((rd_T66 l0 a2).f0)] : List Int)) := ⟨_, rfl⟩
           replace H : (if a5.length + f6.length < 35184372088832 then ((some (([0] : List Int) : List Int)).bind fun g0 => (if a7.length + g0.length < 140737488355328 then (pats_one.l0 e2 l0 d6 false (wrap64 (d3 + 1)) l0 (l0.length : Int) (wrap64 (a2 + 1)) (a5 ++ f6) (a7 ++ g0)) else (none))) else (none)) = some (r1, r2, r3) := by first | (rw [n9]; with_reducible exact H) | (have d7 := (Option.bind_some _ _).symm.trans H; rw [n9]; with_reducible exact d7) | (have d7 := (Option.bind_some _ _).symm.trans H; with_reducible exact d7) | with_reducible exact H | (rw [n9]; exact H) | exact H
           have q7 := Aside0.mk n9
           clear n9
           by_cases B9 : a5.length + f6.length < 35184372088832
           ·rw [if_pos B9] at H
            have t6 := Aside0.mk B9
            clear B9
            obtain ⟨j3, o0⟩ : ∃ y_ : List Int, y_ = (a5 ++ f6) := ⟨_, rfl⟩
            replace H : ((some (([0] : List Int) : List Int)).bind fun g0 => (if a7.length + g0.length < 140737488355328 then (pats_one.l0 e2 l0 d6 false (wrap64 (d3 + 1)) l0 (l0.length : Int) (wrap64 (a2 + 1)) j3 (a7 ++ g0)) else (none))) = some (r1, r2, r3) := by first | (rw [o0]; with_reducible exact H) | (have d7 := (Option.bind_some _ _).symm.trans H; rw [o0]; with_reducible exact d7) | (have d7 := (Option.bind_some _ _).symm.trans H; with_reducible exact d7) | with_reducible exact H | (rw [o0]; exact H) | exact H
            have C0 := Aside0.mk o0
            clear o0
            obtain ⟨g0, o1⟩ : ∃ y_ : List Int, y_ = (([0] : List Int)) := ⟨_, rfl⟩
            replace H : (if a7.length + g0.length < 140737488355328 then (pats_one.l0 e2 l0 d6 false (wrap64 (d3 + 1)) l0 (l0.length : Int) (wrap64 (a2 + 1)) j3 (a7 ++ g0)) else (none)) = some (r1, r2, r3) := by first | (rw [o1]; with_reducible exact H) | (have d7 := (Option.bind_some _ _).symm.trans H; rw [o1]; with_reducible exact d7) | (have d7 := (Option.bind_some _ _).symm.trans H; with_reducible exact d7) | with_reducible exact H | (rw [o1]; exact H) | exact H
            have l2 := Aside0.mk o1
            clear o1
            by_cases C1 : a7.length + g0.length < 140737488355328
            ·rw [if_pos C1] at H
             have M3 := Aside0.mk C1
             clear C1
             obtain ⟨t7, o2⟩ : ∃ y_ : List Int, y_ = (a7 ++ g0) := ⟨_, rfl⟩
             replace H : (pats_one.l0 e2 l0 d6 false (wrap64 (d3 + 1)) l0 (l0.length : Int) (wrap64 (a2 + 1)) j3 t7) = some (r1, r2, r3) := by first | (rw [o2]; with_reducible exact H) | (have d7 := (Option.bind_some _ _).symm.trans H; rw [o2]; with_reducible exact d7) | (have d7 := (Option.bind_some _ _).symm.trans H; with_reducible exact d7) | with_reducible exact H | (rw [o2]; exact H) | exact H
             have O9 := Aside0.mk o2
             clear o2
             have H' := Aside0.mk H
             clear H
             have af4 := e1.out
             have af5 := b9.out
             have af6 := c8.out
             have af7 := b7.out
             have V4 : wc.cell? ⟨a8, 0, none⟩ = some (.int .i32 ((rd_T66 l0 a2).f0)) := (blk_cell a1.out 0).trans rfl
             have V5 : wc.cell? ⟨a8, 1, none⟩ = some (.int .i64 ((rd_T66 l0 a2).f1)) := (blk_cell a1.out 1).trans rfl
             have V6 : wc.cell? ⟨a8, 2, none⟩ = some (.int .i64 ((rd_T66 l0 a2).f2)) := (blk_cell a1.out 2).trans rfl
             have V7 := blk_frozen a1.out 0
             have V8 := blk_frozen a1.out 1
             have V9 := blk_frozen a1.out 2
             obtain ⟨h4, h5, P0⟩ := Kd.R_slice a4.out
             subst P0
             try go_wp2
             have b0 := Aside0.mk (Kd.R_drew a6.out)
             have b1 := Aside0.mk (Kd.R_drew a4.out)
             have b2 := Aside0.mk (blk_drew a3.out)
             have b3 := Aside0.mk (blk_drew a0.out)
             have b4 := Aside0.mk (blk_drew a1.out)
             have b5 := Aside0.mk (below_drew1 HB.out)
             clear a6
             clear a4
             clear a3
             clear a0
             clear a1
             clear HB
             have a6 := b0
             have a4 := b1
             have a3 := b2
             have a0 := b3
             have a1 := b4
             have HB := b5
             clear b0 b1 b2 b3 b4 b5
             refine start_ (n := 15) (S := fun w' => w'.cell? ⟨a9, 0, none⟩ = some (.slice d0 a5.length d1) ∧ w'.cell? ⟨a9, 1, none⟩ = some (.slice h4 a7.length h5) ∧ w'.cell? ⟨a8, 0, none⟩ = some (.int .i32 ((rd_T66 l0 a2).f0)) ∧ w'.cell? ⟨a8, 1, none⟩ = some (.int .i64 ((rd_T66 l0 a2).f1)) ∧ w'.cell? ⟨a8, 2, none⟩ = some (.int .i64 ((rd_T66 l0 a2).f2))) (ds := [11, 13]) #[false, false, false, false, false, false, false, false, false, false, false, false, false, false, false] (by kernel_rfl) rfl rfl ⟨(blk_cell a0.out 0).trans rfl, (blk_cell a0.out 1).trans rfl, (blk_cell a1.out 0).trans rfl, (blk_cell a1.out 1).trans rfl, (blk_cell a1.out 2).trans rfl⟩ (fun hHeld => ?_); refine with_tabW pats_one.tab10 pats_one.bits10 (fun HT_ HW_ => ?_)
             generalize wc.drew = ap0 at a6 a4 a3 a0 a1 HB hHeld ⊢
             refine pure_ (i := 0) (N := some 29) (v := ?_) (a' := ?_) #[true, false, false, false, false, false, false, false, false, false, false, false, false, false, false] rfl rfl (any_of HT_.out (by kernel_rfl)) (fun _ _ _ h => h) (Or.inl ⟨by rfl, ?_⟩) ?_ ?_
             rotate_left
             ·intro w'
              go_simp
              with_reducible rfl
             rotate_left
             ·simp only [Act.put, List.setIfInBounds_toArray, List.set_cons_zero, List.set_cons_succ, i64_w, i32_w]
              rfl
             refine pure_ (i := 2) (N := some 31) (v := ?_) (a' := ?_) #[true, false, true, false, false, false, false, false, false, false, false, false, false, false, false] rfl rfl (any_of HT_.out (by kernel_rfl)) (fun _ _ _ h => h) (Or.inl ⟨by rfl, ?_⟩) ?_ ?_
             rotate_left
             ·intro w'
              go_simp
              with_reducible rfl
             rotate_left
             ·simp only [Act.put, List.setIfInBounds_toArray, List.set_cons_zero, List.set_cons_succ, i64_w, i32_w]
              rfl
             refine pure_ (i := 6) (N := some 35) (v := ?_) (a' := ?_) #[true, false, true, false, false, false, true, false, false, false, false, false, false, false, false] rfl rfl (any_of HT_.out (by kernel_rfl)) (fun _ _ _ h => h) (Or.inl ⟨by rfl, ?_⟩) ?_ ?_
             rotate_left
             ·intro w'
              go_simp
              with_reducible rfl
             rotate_left
             ·simp only [Act.put, List.setIfInBounds_toArray, List.set_cons_zero, List.set_cons_succ, i64_w, i32_w]
              rfl
             refine take_ (i := 1) (N := some 30) (v := ?_) (a' := ?_) #[true, true, true, false, false, false, true, false, false, false, false, false, false, false, false] rfl rfl (take_ofW HT_.out HW_.out (by kernel_rfl)) (fun _ _ _ h => h) (Or.inl ⟨by rfl, ?_⟩) hHeld ?_ ?_
             rotate_left
             ·rintro w' ⟨s0, s1, s2, s3, s4⟩
              go_simp
              with_reducible rfl
             rotate_left
             ·simp only [Act.put, List.setIfInBounds_toArray, List.set_cons_zero, List.set_cons_succ, i64_w, i32_w]
              rfl
             refine take_ (i := 3) (N := some 32) (v := ?_) (a' := ?_) #[true, true, true, true, false, false, true, false, false, false, false, false, false, false, false] rfl rfl (take_ofW HT_.out HW_.out (by kernel_rfl)) (fun _ _ _ h => h) (Or.inl ⟨by rfl, ?_⟩) hHeld ?_ ?_
             rotate_left
             ·rintro w' ⟨s0, s1, s2, s3, s4⟩
              go_simp
              with_reducible rfl
             rotate_left
             ·simp only [Act.put, List.setIfInBounds_toArray, List.set_cons_zero, List.set_cons_succ, i64_w, i32_w]
              rfl
             refine take_ (i := 7) (N := some 36) (v := ?_) (a' := ?_) #[true, true, true, true, false, false, true, true, false, false, false, false, false, false, false] rfl rfl (take_ofW HT_.out HW_.out (by kernel_rfl)) (fun _ _ _ h => h) (Or.inl ⟨by rfl, ?_⟩) hHeld ?_ ?_
             rotate_left
             ·rintro w' ⟨s0, s1, s2, s3, s4⟩
              go_simp
              with_reducible rfl
             rotate_left
             ·simp only [Act.put, List.setIfInBounds_toArray, List.set_cons_zero, List.set_cons_succ, i64_w, i32_w]
              rfl
             refine join_ (σ := Value × Value × Value) 5 #[true, true, true, true, true, true, true, true, true, false, true, false, false, false, false] (fun s_ => [(33, s_.1), (34, s_.2.1), (37, s_.2.2), (39, .pointer (some ⟨a9, 0, none⟩))]) (fun s_ w' => (w'.cell? ⟨a9, 0, none⟩ = some (.slice d0 a5.length d1) ∧ w'.cell? ⟨a9, 1, none⟩ = some (.slice h4 a7.length h5) ∧ w'.cell? ⟨a8, 0, none⟩ = some (.int .i32 ((rd_T66 l0 a2).f0)) ∧ w'.cell? ⟨a8, 1, none⟩ = some (.int .i64 ((rd_T66 l0 a2).f1)) ∧ w'.cell? ⟨a8, 2, none⟩ = some (.int .i64 ((rd_T66 l0 a2).f2))) ∧ (Kd.R (Kd.int .i32) 21 w' w.heap.size (fun k_ => some k_ ≠ (s_.2.1 : Value).ownBlock) s_.1 f6) ∧ (Kd.R (Kd.int .i32) 21 w' w.heap.size (fun k_ => some k_ ≠ (s_.1 : Value).ownBlock) s_.2.1 j3) ∧ (Kd.R (Kd.int .u8) 5 w' w.heap.size (fun k_ => some k_ ≠ (.slice h4 a7.length h5 : Value).ownBlock) s_.2.2 g0) ∧ (Kd.R (Kd.int .u8) 5 w' w.heap.size (fun k_ => some k_ ≠ (s_.2.2 : Value).ownBlock) (.slice h4 a7.length h5) a7) ∧ (w'.heap[b6]? = some (.cells #[.slice none 0 0, .slice none 0 0] 39 (0, 0))) ∧ (w'.heap[a9]? = some (.cells #[.slice d0 a5.length d1, .slice h4 a7.length h5] 39 (0, 0))) ∧ (w'.heap[a8]? = some (.cells #[.int .i32 ((rd_T66 l0 a2).f0), .int .i64 ((rd_T66 l0 a2).f1), .int .i64 ((rd_T66 l0 a2).f2)] 66 (0, 0))) ∧ (Below w.heap.size w w')) ?_ ?_
             rotate_left
             ·intro hCont
              refine two_ (i := 4) (j := 8) (Ni := some 33) (Nj := some 37) #[true, true, true, true, true, false, true, true, false, false, false, false, false, false, false] #[true, true, true, true, false, false, true, true, true, false, false, false, false, false, false] rfl rfl rfl rfl (two_of HT_.out (by kernel_rfl)) (by decide) (by decide) (fun K hK => ?_) (fun K hK => ?_)
              ·skip
               refine Kd.R_lit_step (Kd.int .i32) _ 21 ?hg (N := 33) ?hd (xs := ([((rd_T66 l0 a2).f0)] : List Int)) (inner := [.int .i32 ((rd_T66 l0 a2).f0)]) (ok := fun _ => True) (okp := fun _ => True) ?hr ?hp (fun _ hk => hk) trivial (Below.refl _ _) (Nat.le_refl _) (by simp) ?_; (case hd => rfl); (case hg => rfl); (case hr => first | (go_simp; done) | (go_simp; rfl)); (case hp => exact (Reps.one (show Kd.M (Kd.int .i32) _ _ _ ((rd_T66 l0 a2).f0) [.int .i32 ((rd_T66 l0 a2).f0)] from rfl) (Reps.none _ _)))
               intro C2 W0 h6 hb hg_ hnew_
               clear hg_ hnew_
               (first | rw [← q7.out] at h6 | (simp only [Int.reduceToNat] at h6; rw [← q7.out] at h6))
               have b0 := Aside0.mk (Kd.R_elder' (by exact a6.out) (Kd.R_base h6) hb)
               have b1 := Aside0.mk (Kd.R_below (by exact a4.out) hb)
               have b2 := Aside0.mk (Kd.R_lower (Kd.R_new' h6 (Kd.R_lt (by exact a6.out))) (below_size (HB.out)))
               have b3 := Aside0.mk (blk_below a3.out hb)
               have b4 := Aside0.mk (blk_below a0.out hb)
               have b5 := Aside0.mk (blk_below a1.out hb)
               have b8 := Aside0.mk (below_step (HB.out) hb)
               clear a6
               clear a4
               clear a3
               clear a0
               clear a1
               clear HB
               have a6 := b0
               have a4 := b1
               have e0 := b2
               have a3 := b3
               have a0 := b4
               have a1 := b5
               have HB := b8
               clear b0 b1 b2 b3 b4 b5 b8
               clear hb h6
               obtain ⟨H4, H5, H6⟩ := Kd.R_slice e0.out
               (first | subst H6 | (injection H6 with d4 e3 d5; have e4 := d4.symm; have e5 := d5.symm; clear d4 e3 d5; subst e4; subst e5))
               refine hK.out _ _ ⟨(blk_cell a0.out 0).trans rfl, (blk_cell a0.out 1).trans rfl, (blk_cell a1.out 0).trans rfl, (blk_cell a1.out 1).trans rfl, (blk_cell a1.out 2).trans rfl⟩ (fun hHeld => ?_)
               clear hK K
               refine norm_ (a' := ?_) ?_ ?_
               rotate_left
               ·show Act.put _ (some 33) _ = _
                simp only [Act.put, List.setIfInBounds_toArray, List.set_cons_zero, List.set_cons_succ, i64_w, i32_w]
                rfl
               refine two_ (i := 5) (j := 8) (Ni := some 34) (Nj := some 37) #[true, true, true, true, true, true, true, true, false, false, false, false, false, false, false] #[true, true, true, true, true, false, true, true, true, false, false, false, false, false, false] rfl rfl rfl rfl (two_of HT_.out (by kernel_rfl)) (by decide) (by decide) (fun K hK => ?_) (fun K hK => ?_)
               ·skip
                refine Kd.R_append_rows_step (Kd.int .i32) (w0 := w) w.heap.size (by rfl) (.tmp 30) (.tmp 33) 23 21 (.int .i32 0) 4 rfl Try.underlying23 info21 rfl (by decide) (by omega) (.slice d0 a5.length d1) a5 f6 _ _ _ (fun k_ => some k_ ≠ (.slice H4 f6.length H5 : Value).ownBlock) (fun _ => False) rfl rfl ?aO ?aR (fun _ _ h => h) (fun _ h => h.elim) ?aF ?aB ?aS ?aL ?_
                (case aR => repeat (first | exact (Kd.R_reads' e0.out).2.2 | (with_reducible refine Kd.C_alloc ?_ _) | (with_reducible refine Kd.C_drewN ?_ _) | (with_reducible refine Kd.C_drew ?_)))
                (case aB => exact (HB.out))
                (case aF => exact (fun k_ hk => Kd.fresh' (Kd.R_lt (by exact e0.out)) k_ hk))
                (case aO => exact (by exact Kd.R_mono a6.out (fun _ hk => hk.2)))
                (case aS => exact (below_size (HB.out)))
                (case aL => have := t6.out; omega)
                intro k4 M4 ho hb hg hat
                rw [← C0.out] at ho
                have b0 := Aside0.mk (Kd.R_over' (by exact a4.out) (Kd.R_typed (by exact a6.out)) (by decide) hg)
                have b1 := Aside0.mk (blk_grown a3.out hg (Kd.R_ne a6.out a3.out (by decide)))
                have b2 := Aside0.mk (blk_grown a0.out hg (Kd.R_ne a6.out a0.out (by decide)))
                have b3 := Aside0.mk (blk_grown a1.out hg (Kd.R_ne a6.out a1.out (by decide)))
                have b4 := Aside0.mk (Kd.R_after (ok := (fun _ => True)) (by exact e0.out) hg hat)
                have b5 := Aside0.mk (hb)
                have b8 := Aside0.mk (ho)
                clear a4
                clear a3
                clear a0
                clear a1
                clear e0
                clear HB
                clear a6
                have a4 := b0
                have a3 := b1
                have a0 := b2
                have a1 := b3
                have e0 := b4
                have HB := b5
                have f9 := b8
                clear b0 b1 b2 b3 b4 b5 b8
                clear ho hb hg hat
                refine hK.out _ _ ⟨(blk_cell a0.out 0).trans rfl, (blk_cell a0.out 1).trans rfl, (blk_cell a1.out 0).trans rfl, (blk_cell a1.out 1).trans rfl, (blk_cell a1.out 2).trans rfl⟩ (fun hHeld => ?_)
                clear hK K
                refine norm_ (a' := ?_) ?_ ?_
                rotate_left
                ·show Act.put _ (some 34) _ = _
                 simp only [Act.put, List.setIfInBounds_toArray, List.set_cons_zero, List.set_cons_succ, i64_w, i32_w]
                 rfl
                refine pure_ (i := 10) (N := some 39) (v := ?_) (a' := ?_) #[true, true, true, true, true, true, true, true, false, false, true, false, false, false, false] rfl rfl (any_of HT_.out (by kernel_rfl)) (fun _ _ _ h => h) (Or.inl ⟨by rfl, ?_⟩) ?_ ?_
                rotate_left
                ·intro w'
                 go_simp
                 with_reducible rfl
                rotate_left
                ·simp only [Act.put, List.setIfInBounds_toArray, List.set_cons_zero, List.set_cons_succ, i64_w, i32_w]
                 rfl
                refine one_ (i := 8) (N := some 37) #[true, true, true, true, true, true, true, true, true, false, true, false, false, false, false] rfl rfl (one_of HT_.out (by kernel_rfl)) (by decide) (fun K hK => ?_)
                refine Kd.R_lit_step (Kd.int .u8) _ 5 ?hg (N := 37) ?hd (xs := ([0] : List Int)) (inner := [.int .u8 0]) (ok := fun _ => True) (okp := fun _ => True) ?hr ?hp (fun _ hk => hk) trivial (Below.refl _ _) (Nat.le_refl _) (by simp) ?_; (case hd => rfl); (case hg => rfl); (case hr => first | (go_simp; done) | (go_simp; rfl)); (case hp => exact (Reps.one (show Kd.M (Kd.int .u8) _ _ _ 0 [.int .u8 0] from rfl) (Reps.none _ _)))
                intro k5 M5 l3 hb hg_ hnew_
                clear hg_ hnew_
                (first | rw [← l2.out] at l3 | (simp only [Int.reduceToNat] at l3; rw [← l2.out] at l3))
                have b0 := Aside0.mk (Kd.R_elder' (by exact a4.out) (Kd.R_base l3) hb)
                have b1 := Aside0.mk (Kd.R_below (by exact e0.out) hb)
                have b2 := Aside0.mk (Kd.R_below (by exact f9.out) hb)
                have b3 := Aside0.mk (Kd.R_lower (Kd.R_new' l3 (Kd.R_lt (by exact a4.out))) (below_size (HB.out)))
                have b4 := Aside0.mk (blk_below a3.out hb)
                have b5 := Aside0.mk (blk_below a0.out hb)
                have b8 := Aside0.mk (blk_below a1.out hb)
                have d2 := Aside0.mk (below_step (HB.out) hb)
                clear a4
                clear e0
                clear f9
                clear a3
                clear a0
                clear a1
                clear HB
                have a4 := b0
                have e0 := b1
                have f9 := b2
                have e8 := b3
                have a3 := b4
                have a0 := b5
                have a1 := b8
                have HB := d2
                clear b0 b1 b2 b3 b4 b5 b8 d2
                clear hb l3
                refine hK.out _ _ ⟨(blk_cell a0.out 0).trans rfl, (blk_cell a0.out 1).trans rfl, (blk_cell a1.out 0).trans rfl, (blk_cell a1.out 1).trans rfl, (blk_cell a1.out 2).trans rfl⟩ (fun hHeld => ?_)
                clear hK K
                refine norm_ (a' := ?_) ?_ ?_
                rotate_left
                ·show Act.put _ (some 37) _ = _
                 simp only [Act.put, List.setIfInBounds_toArray, List.set_cons_zero, List.set_cons_succ, i64_w, i32_w]
                 rfl
                exact norm_ (by simp only [putAll, Act.put, List.setIfInBounds_toArray, List.set_cons_zero, List.set_cons_succ]) (hCont (.slice H4 f6.length H5, k4, k5) _ ⟨hHeld, (by exact Kd.R_mono e0.out (fun _ hk => hk.2)), (by exact f9.out), (by exact Kd.R_mono e8.out (fun _ hk => hk.2)), (by exact Kd.R_mono a4.out (fun _ hk => hk.2)), (by exact a3.out), (by exact a0.out), (by exact a1.out), (HB.out)⟩)
               ·skip
                refine Kd.R_lit_step (Kd.int .u8) _ 5 ?hg (N := 37) ?hd (xs := ([0] : List Int)) (inner := [.int .u8 0]) (ok := fun _ => True) (okp := fun _ => True) ?hr ?hp (fun _ hk => hk) trivial (Below.refl _ _) (Nat.le_refl _) (by simp) ?_; (case hd => rfl); (case hg => rfl); (case hr => first | (go_simp; done) | (go_simp; rfl)); (case hp => exact (Reps.one (show Kd.M (Kd.int .u8) _ _ _ 0 [.int .u8 0] from rfl) (Reps.none _ _)))
                intro k5 M4 h7 hb hg_ hnew_
                clear hg_ hnew_
                (first | rw [← l2.out] at h7 | (simp only [Int.reduceToNat] at h7; rw [← l2.out] at h7))
                have b0 := Aside0.mk (Kd.R_below (by exact a6.out) hb)
                have b1 := Aside0.mk (Kd.R_elder' (by exact a4.out) (Kd.R_base h7) hb)
                have b2 := Aside0.mk (Kd.R_below (by exact e0.out) hb)
                have b3 := Aside0.mk (Kd.R_lower (Kd.R_new' h7 (Kd.R_lt (by exact a4.out))) (below_size (HB.out)))
                have b4 := Aside0.mk (blk_below a3.out hb)
                have b5 := Aside0.mk (blk_below a0.out hb)
                have b8 := Aside0.mk (blk_below a1.out hb)
                have d2 := Aside0.mk (below_step (HB.out) hb)
                clear a6
                clear a4
                clear e0
                clear a3
                clear a0
                clear a1
                clear HB
                have a6 := b0
                have a4 := b1
                have e0 := b2
                have e8 := b3
                have a3 := b4
                have a0 := b5
                have a1 := b8
                have HB := d2
                clear b0 b1 b2 b3 b4 b5 b8 d2
                clear hb h7
                obtain ⟨o3, o4, o5⟩ := Kd.R_slice e0.out
                (first | subst o5 | (injection o5 with d4 e3 d5; have e4 := d4.symm; have e5 := d5.symm; clear d4 e3 d5; subst e4; subst e5))
                refine hK.out _ _ ⟨(blk_cell a0.out 0).trans rfl, (blk_cell a0.out 1).trans rfl, (blk_cell a1.out 0).trans rfl, (blk_cell a1.out 1).trans rfl, (blk_cell a1.out 2).trans rfl⟩ (fun hHeld => ?_)
                clear hK K
                refine norm_ (a' := ?_) ?_ ?_
                rotate_left
                ·show Act.put _ (some 37) _ = _
                 simp only [Act.put, List.setIfInBounds_toArray, List.set_cons_zero, List.set_cons_succ, i64_w, i32_w]
                 rfl
                refine one_ (i := 5) (N := some 34) #[true, true, true, true, true, true, true, true, true, false, false, false, false, false, false] rfl rfl (one_of HT_.out (by kernel_rfl)) (by decide) (fun K hK => ?_)
                refine Kd.R_append_rows_step (Kd.int .i32) (w0 := w) w.heap.size (by rfl) (.tmp 30) (.tmp 33) 23 21 (.int .i32 0) 4 rfl Try.underlying23 info21 rfl (by decide) (by omega) (.slice d0 a5.length d1) a5 f6 _ _ _ (fun k_ => some k_ ≠ (.slice o3 f6.length o4 : Value).ownBlock) (fun _ => False) rfl rfl ?aO ?aR (fun _ _ h => h) (fun _ h => h.elim) ?aF ?aB ?aS ?aL ?_
                (case aR => repeat (first | exact (Kd.R_reads' e0.out).2.2 | (with_reducible refine Kd.C_alloc ?_ _) | (with_reducible refine Kd.C_drewN ?_ _) | (with_reducible refine Kd.C_drew ?_)))
                (case aB => exact (HB.out))
                (case aF => exact (fun k_ hk => Kd.fresh' (Kd.R_lt (by exact e0.out)) k_ hk))
                (case aO => exact (by exact Kd.R_mono a6.out (fun _ hk => hk.2)))
                (case aS => exact (below_size (HB.out)))
                (case aL => have := t6.out; omega)
                intro k4 M5 ho hb hg hat
                rw [← C0.out] at ho
                have b0 := Aside0.mk (Kd.R_over' (by exact a4.out) (Kd.R_typed (by exact a6.out)) (by decide) hg)
                have b1 := Aside0.mk (blk_grown a3.out hg (Kd.R_ne a6.out a3.out (by decide)))
                have b2 := Aside0.mk (blk_grown a0.out hg (Kd.R_ne a6.out a0.out (by decide)))
                have b3 := Aside0.mk (blk_grown a1.out hg (Kd.R_ne a6.out a1.out (by decide)))
                have b4 := Aside0.mk (Kd.R_after (ok := (fun _ => True)) (by exact e0.out) hg hat)
                have b5 := Aside0.mk (Kd.R_over' (by exact e8.out) (Kd.R_typed (by exact a6.out)) (by decide) hg)
                have b8 := Aside0.mk (hb)
                have d2 := Aside0.mk (ho)
                clear a4
                clear a3
                clear a0
                clear a1
                clear e0
                clear e8
                clear HB
                clear a6
                have a4 := b0
                have a3 := b1
                have a0 := b2
                have a1 := b3
                have e0 := b4
                have e8 := b5
                have HB := b8
                have f9 := d2
                clear b0 b1 b2 b3 b4 b5 b8 d2
                clear ho hb hg hat
                refine hK.out _ _ ⟨(blk_cell a0.out 0).trans rfl, (blk_cell a0.out 1).trans rfl, (blk_cell a1.out 0).trans rfl, (blk_cell a1.out 1).trans rfl, (blk_cell a1.out 2).trans rfl⟩ (fun hHeld => ?_)
                clear hK K
                refine norm_ (a' := ?_) ?_ ?_
                rotate_left
                ·show Act.put _ (some 34) _ = _
                 simp only [Act.put, List.setIfInBounds_toArray, List.set_cons_zero, List.set_cons_succ, i64_w, i32_w]
                 rfl
                refine pure_ (i := 10) (N := some 39) (v := ?_) (a' := ?_) #[true, true, true, true, true, true, true, true, true, false, true, false, false, false, false] rfl rfl (any_of HT_.out (by kernel_rfl)) (fun _ _ _ h => h) (Or.inl ⟨by rfl, ?_⟩) ?_ ?_
                rotate_left
                ·intro w'
                 go_simp
                 with_reducible rfl
                rotate_left
                ·simp only [Act.put, List.setIfInBounds_toArray, List.set_cons_zero, List.set_cons_succ, i64_w, i32_w]
                 rfl
                exact norm_ (by simp only [putAll, Act.put, List.setIfInBounds_toArray, List.set_cons_zero, List.set_cons_succ]) (hCont (.slice o3 f6.length o4, k4, k5) _ ⟨hHeld, (by exact Kd.R_mono e0.out (fun _ hk => hk.2)), (by exact f9.out), (by exact Kd.R_mono e8.out (fun _ hk => hk.2)), (by exact Kd.R_mono a4.out (fun _ hk => hk.2)), (by exact a3.out), (by exact a0.out), (by exact a1.out), (HB.out)⟩)
              ·skip
               refine Kd.R_lit_step (Kd.int .u8) _ 5 ?hg (N := 37) ?hd (xs := ([0] : List Int)) (inner := [.int .u8 0]) (ok := fun _ => True) (okp := fun _ => True) ?hr ?hp (fun _ hk => hk) trivial (Below.refl _ _) (Nat.le_refl _) (by simp) ?_; (case hd => rfl); (case hg => rfl); (case hr => first | (go_simp; done) | (go_simp; rfl)); (case hp => exact (Reps.one (show Kd.M (Kd.int .u8) _ _ _ 0 [.int .u8 0] from rfl) (Reps.none _ _)))
               intro k5 W0 h6 hb hg_ hnew_
               clear hg_ hnew_
               (first | rw [← l2.out] at h6 | (simp only [Int.reduceToNat] at h6; rw [← l2.out] at h6))
               have b0 := Aside0.mk (Kd.R_below (by exact a6.out) hb)
               have b1 := Aside0.mk (Kd.R_elder' (by exact a4.out) (Kd.R_base h6) hb)
               have b2 := Aside0.mk (Kd.R_lower (Kd.R_new' h6 (Kd.R_lt (by exact a4.out))) (below_size (HB.out)))
               have b3 := Aside0.mk (blk_below a3.out hb)
               have b4 := Aside0.mk (blk_below a0.out hb)
               have b5 := Aside0.mk (blk_below a1.out hb)
               have b8 := Aside0.mk (below_step (HB.out) hb)
               clear a6
               clear a4
               clear a3
               clear a0
               clear a1
               clear HB
               have a6 := b0
               have a4 := b1
               have e8 := b2
               have a3 := b3
               have a0 := b4
               have a1 := b5
               have HB := b8
               clear b0 b1 b2 b3 b4 b5 b8
               clear hb h6
               refine hK.out _ _ ⟨(blk_cell a0.out 0).trans rfl, (blk_cell a0.out 1).trans rfl, (blk_cell a1.out 0).trans rfl, (blk_cell a1.out 1).trans rfl, (blk_cell a1.out 2).trans rfl⟩ (fun hHeld => ?_)
               clear hK K
               refine norm_ (a' := ?_) ?_ ?_
               rotate_left
               ·show Act.put _ (some 37) _ = _
                simp only [Act.put, List.setIfInBounds_toArray, List.set_cons_zero, List.set_cons_succ, i64_w, i32_w]
                rfl
               refine one_ (i := 4) (N := some 33) #[true, true, true, true, true, false, true, true, true, false, false, false, false, false, false] rfl rfl (one_of HT_.out (by kernel_rfl)) (by decide) (fun K hK => ?_)
               refine Kd.R_lit_step (Kd.int .i32) _ 21 ?hg (N := 33) ?hd (xs := ([((rd_T66 l0 a2).f0)] : List Int)) (inner := [.int .i32 ((rd_T66 l0 a2).f0)]) (ok := fun _ => True) (okp := fun _ => True) ?hr ?hp (fun _ hk => hk) trivial (Below.refl _ _) (Nat.le_refl _) (by simp) ?_; (case hd => rfl); (case hg => rfl); (case hr => first | (go_simp; done) | (go_simp; rfl)); (case hp => exact (Reps.one (show Kd.M (Kd.int .i32) _ _ _ ((rd_T66 l0 a2).f0) [.int .i32 ((rd_T66 l0 a2).f0)] from rfl) (Reps.none _ _)))
               intro C2 M4 h7 hb hg_ hnew_
               clear hg_ hnew_
               (first | rw [← q7.out] at h7 | (simp only [Int.reduceToNat] at h7; rw [← q7.out] at h7))
               have b0 := Aside0.mk (Kd.R_elder' (by exact a6.out) (Kd.R_base h7) hb)
               have b1 := Aside0.mk (Kd.R_below (by exact a4.out) hb)
               have b2 := Aside0.mk (Kd.R_below (by exact e8.out) hb)
               have b3 := Aside0.mk (Kd.R_lower (Kd.R_new' h7 (Kd.R_lt (by exact a6.out))) (below_size (HB.out)))
               have b4 := Aside0.mk (blk_below a3.out hb)
               have b5 := Aside0.mk (blk_below a0.out hb)
               have b8 := Aside0.mk (blk_below a1.out hb)
               have d2 := Aside0.mk (below_step (HB.out) hb)
               clear a6
               clear a4
               clear e8
               clear a3
               clear a0
               clear a1
               clear HB
               have a6 := b0
               have a4 := b1
               have e8 := b2
               have e0 := b3
               have a3 := b4
               have a0 := b5
               have a1 := b8
               have HB := d2
               clear b0 b1 b2 b3 b4 b5 b8 d2
               clear hb h7
               obtain ⟨o3, o4, o5⟩ := Kd.R_slice e0.out
               (first | subst o5 | (injection o5 with d4 e3 d5; have e4 := d4.symm; have e5 := d5.symm; clear d4 e3 d5; subst e4; subst e5))
               refine hK.out _ _ ⟨(blk_cell a0.out 0).trans rfl, (blk_cell a0.out 1).trans rfl, (blk_cell a1.out 0).trans rfl, (blk_cell a1.out 1).trans rfl, (blk_cell a1.out 2).trans rfl⟩ (fun hHeld => ?_)
               clear hK K
               refine norm_ (a' := ?_) ?_ ?_
               rotate_left
               ·show Act.put _ (some 33) _ = _
                simp only [Act.put, List.setIfInBounds_toArray, List.set_cons_zero, List.set_cons_succ, i64_w, i32_w]
                rfl
               refine one_ (i := 5) (N := some 34) #[true, true, true, true, true, true, true, true, true, false, false, false, false, false, false] rfl rfl (one_of HT_.out (by kernel_rfl)) (by decide) (fun K hK => ?_)
               refine Kd.R_append_rows_step (Kd.int .i32) (w0 := w) w.heap.size (by rfl) (.tmp 30) (.tmp 33) 23 21 (.int .i32 0) 4 rfl Try.underlying23 info21 rfl (by decide) (by omega) (.slice d0 a5.length d1) a5 f6 _ _ _ (fun k_ => some k_ ≠ (.slice o3 f6.length o4 : Value).ownBlock) (fun _ => False) rfl rfl ?aO ?aR (fun _ _ h => h) (fun _ h => h.elim) ?aF ?aB ?aS ?aL ?_
               (case aR => repeat (first | exact (Kd.R_reads' e0.out).2.2 | (with_reducible refine Kd.C_alloc ?_ _) | (with_reducible refine Kd.C_drewN ?_ _) | (with_reducible refine Kd.C_drew ?_)))
               (case aB => exact (HB.out))
               (case aF => exact (fun k_ hk => Kd.fresh' (Kd.R_lt (by exact e0.out)) k_ hk))
               (case aO => exact (by exact Kd.R_mono a6.out (fun _ hk => hk.2)))
               (case aS => exact (below_size (HB.out)))
               (case aL => have := t6.out; omega)
               intro k4 M5 ho hb hg hat
               rw [← C0.out] at ho
               have b0 := Aside0.mk (Kd.R_over' (by exact a4.out) (Kd.R_typed (by exact a6.out)) (by decide) hg)
               have b1 := Aside0.mk (blk_grown a3.out hg (Kd.R_ne a6.out a3.out (by decide)))
               have b2 := Aside0.mk (blk_grown a0.out hg (Kd.R_ne a6.out a0.out (by decide)))
               have b3 := Aside0.mk (blk_grown a1.out hg (Kd.R_ne a6.out a1.out (by decide)))
               have b4 := Aside0.mk (Kd.R_over' (by exact e8.out) (Kd.R_typed (by exact a6.out)) (by decide) hg)
               have b5 := Aside0.mk (Kd.R_after (ok := (fun _ => True)) (by exact e0.out) hg hat)
               have b8 := Aside0.mk (hb)
               have d2 := Aside0.mk (ho)
               clear a4
               clear a3
               clear a0
               clear a1
               clear e8
               clear e0
               clear HB
               clear a6
               have a4 := b0
               have a3 := b1
               have a0 := b2
               have a1 := b3
               have e8 := b4
               have e0 := b5
               have HB := b8
               have f9 := d2
               clear b0 b1 b2 b3 b4 b5 b8 d2
               clear ho hb hg hat
               refine hK.out _ _ ⟨(blk_cell a0.out 0).trans rfl, (blk_cell a0.out 1).trans rfl, (blk_cell a1.out 0).trans rfl, (blk_cell a1.out 1).trans rfl, (blk_cell a1.out 2).trans rfl⟩ (fun hHeld => ?_)
               clear hK K
               refine norm_ (a' := ?_) ?_ ?_
               rotate_left
               ·show Act.put _ (some 34) _ = _
                simp only [Act.put, List.setIfInBounds_toArray, List.set_cons_zero, List.set_cons_succ, i64_w, i32_w]
                rfl
               refine pure_ (i := 10) (N := some 39) (v := ?_) (a' := ?_) #[true, true, true, true, true, true, true, true, true, false, true, false, false, false, false] rfl rfl (any_of HT_.out (by kernel_rfl)) (fun _ _ _ h => h) (Or.inl ⟨by rfl, ?_⟩) ?_ ?_
               rotate_left
               ·intro w'
                go_simp
                with_reducible rfl
               rotate_left
               ·simp only [Act.put, List.setIfInBounds_toArray, List.set_cons_zero, List.set_cons_succ, i64_w, i32_w]
                rfl
               exact norm_ (by simp only [putAll, Act.put, List.setIfInBounds_toArray, List.set_cons_zero, List.set_cons_succ]) (hCont (.slice o3 f6.length o4, k4, k5) _ ⟨hHeld, (by exact Kd.R_mono e0.out (fun _ hk => hk.2)), (by exact f9.out), (by exact Kd.R_mono e8.out (fun _ hk => hk.2)), (by exact Kd.R_mono a4.out (fun _ hk => hk.2)), (by exact a3.out), (by exact a0.out), (by exact a1.out), (HB.out)⟩)
             rintro ⟨C2, k4, k5⟩ i2 ⟨hS_, h0_, h1_, h2_, h3_, h4_, h5_, h6_, h7_⟩
             have b0 : Aside0 (Kd.R (Kd.int .i32) 21 i2 w.heap.size (fun k_ => some k_ ≠ (k4 : Value).ownBlock) C2 f6) := ⟨h0_⟩
             have b1 : Aside0 (Kd.R (Kd.int .i32) 21 i2 w.heap.size (fun k_ => some k_ ≠ (C2 : Value).ownBlock) k4 j3) := ⟨h1_⟩
             have b2 : Aside0 (Kd.R (Kd.int .u8) 5 i2 w.heap.size (fun k_ => some k_ ≠ (.slice h4 a7.length h5 : Value).ownBlock) k5 g0) := ⟨h2_⟩
             have b3 : Aside0 (Kd.R (Kd.int .u8) 5 i2 w.heap.size (fun k_ => some k_ ≠ (k5 : Value).ownBlock) (.slice h4 a7.length h5) a7) := ⟨h3_⟩
             have b4 : Aside0 (i2.heap[b6]? = some (.cells #[.slice none 0 0, .slice none 0 0] 39 (0, 0))) := ⟨h4_⟩
             have b5 : Aside0 (i2.heap[a9]? = some (.cells #[.slice d0 a5.length d1, .slice h4 a7.length h5] 39 (0, 0))) := ⟨h5_⟩
             have b8 : Aside0 (i2.heap[a8]? = some (.cells #[.int .i32 ((rd_T66 l0 a2).f0), .int .i64 ((rd_T66 l0 a2).f1), .int .i64 ((rd_T66 l0 a2).f2)] 66 (0, 0))) := ⟨h6_⟩
             have d2 : Aside0 (Below w.heap.size w i2) := ⟨h7_⟩
             clear a6
             clear a4
             clear a3
             clear a0
             clear a1
             clear HB
             clear h0_ h1_ h2_ h3_ h4_ h5_ h6_ h7_
             have e0 := b0
             have f9 := b1
             have e8 := b2
             have a4 := b3
             have a3 := b4
             have a0 := b5
             have a1 := b8
             have HB := d2
             clear b0 b1 b2 b3 b4 b5 b8 d2
             have hHeld : i2.cell? ⟨a9, 0, none⟩ = some (.slice d0 a5.length d1) ∧ i2.cell? ⟨a9, 1, none⟩ = some (.slice h4 a7.length h5) ∧ i2.cell? ⟨a8, 0, none⟩ = some (.int .i32 ((rd_T66 l0 a2).f0)) ∧ i2.cell? ⟨a8, 1, none⟩ = some (.int .i64 ((rd_T66 l0 a2).f1)) ∧ i2.cell? ⟨a8, 2, none⟩ = some (.int .i64 ((rd_T66 l0 a2).f2)) := hS_
             obtain ⟨P1, P2, H7⟩ := Kd.R_slice e8.out
             (first | subst H7 | (injection H7 with d4 e3 d5; have e4 := d4.symm; have e5 := d5.symm; clear d4 e3 d5; subst e4; subst e5))
             refine norm_ (a' := ?_) ?_ ?_
             rotate_left
             ·simp only [putAll, Act.put, List.setIfInBounds_toArray, List.set_cons_zero, List.set_cons_succ]
              rfl
             refine one_ (i := 9) (N := some 38) #[true, true, true, true, true, true, true, true, true, true, true, false, false, false, false] rfl rfl (one_of HT_.out (by kernel_rfl)) (by decide) (fun K hK => ?_)
             refine Kd.R_append_rows_step (Kd.int .u8) (w0 := w) w.heap.size (by rfl) (.tmp 36) (.tmp 37) 27 5 (.int .u8 0) 1 rfl Try.underlying27 info5 rfl (by decide) (by omega) (.slice h4 a7.length h5) a7 g0 _ _ _ (fun k_ => some k_ ≠ (.slice P1 g0.length P2 : Value).ownBlock) (fun _ => False) rfl rfl ?aO ?aR (fun _ _ h => h) (fun _ h => h.elim) ?aF ?aB ?aS ?aL ?_
             (case aR => repeat (first | exact (Kd.R_reads' e8.out).2.2 | (with_reducible refine Kd.C_alloc ?_ _) | (with_reducible refine Kd.C_drewN ?_ _) | (with_reducible refine Kd.C_drew ?_)))
             (case aB => exact (HB.out))
             (case aF => exact (fun k_ hk => Kd.fresh' (Kd.R_lt (by exact e8.out)) k_ hk))
             (case aO => exact (by exact a4.out))
             (case aS => exact (below_size (HB.out)))
             (case aL => have := M3.out; omega)
             intro ap1 M6 ho hb hg hat
             rw [← O9.out] at ho
             have b0 := Aside0.mk (blk_grown a3.out hg (Kd.R_ne a4.out a3.out (by decide)))
             have b1 := Aside0.mk (blk_grown a0.out hg (Kd.R_ne a4.out a0.out (by decide)))
             have b2 := Aside0.mk (blk_grown a1.out hg (Kd.R_ne a4.out a1.out (by decide)))
             have b3 := Aside0.mk (Kd.R_over' (by exact e0.out) (Kd.R_typed (by exact a4.out)) (by decide) hg)
             have b4 := Aside0.mk (Kd.R_over' (by exact f9.out) (Kd.R_typed (by exact a4.out)) (by decide) hg)
             have b5 := Aside0.mk (Kd.R_after (ok := (fun _ => True)) (by exact Kd.R_mono e8.out (fun _ hk => ⟨trivial, hk⟩)) hg hat)
             have b8 := Aside0.mk (hb)
             have d2 := Aside0.mk (ho)
             clear a3
             clear a0
             clear a1
             clear e0
             clear f9
             clear e8
             clear HB
             clear a4
             have a3 := b0
             have a0 := b1
             have a1 := b2
             have e0 := b3
             have f9 := b4
             have e8 := b5
             have HB := b8
             have H8 := d2
             clear b0 b1 b2 b3 b4 b5 b8 d2
             clear ho hb hg hat
             obtain ⟨q8, q9, H9⟩ := Kd.R_slice f9.out
             (first | subst H9 | (injection H9 with d4 e3 d5; have e4 := d4.symm; have e5 := d5.symm; clear d4 e3 d5; subst e4; subst e5))
             obtain ⟨C3, C4, I0⟩ := Kd.R_slice H8.out
             (first | subst I0 | (injection I0 with d4 e3 d5; have e4 := d4.symm; have e5 := d5.symm; clear d4 e3 d5; subst e4; subst e5))
             refine hK.out _ _ ⟨(blk_cell a0.out 0).trans rfl, (blk_cell a0.out 1).trans rfl, (blk_cell a1.out 0).trans rfl, (blk_cell a1.out 1).trans rfl, (blk_cell a1.out 2).trans rfl⟩ (fun hHeld => ?_)
             clear hK K
             refine norm_ (a' := ?_) ?_ ?_
             rotate_left
             ·show Act.put _ (some 38) _ = _
              simp only [Act.put, List.setIfInBounds_toArray, List.set_cons_zero, List.set_cons_succ, i64_w, i32_w]
              rfl
             refine last_ (i := 11) (N := none) #[true, true, true, true, true, true, true, true, true, true, true, true, false, false, false] rfl rfl (one_of HT_.out (by kernel_rfl)) (by decide) (fun K hK => ?_)
             have an7 : M6.cell? ⟨a9, 0, none⟩ = some (.slice d0 a5.length d1) := (blk_cell a0.out 0).trans rfl
             have af8 := blk_frozen a0.out 0
             have W1 := c6.out
             have W2 := c8.out
             have W3 := c7.out
             have W4 := b7.out
             refine skip_ (w1 := ?_) (by rfl) rfl ?_ ?_
             rotate_left
             ·go_simp
              rfl
             refine hK.out _ _ ?_
             clear hK K
             refine pure_ (i := 12) (N := some 40) (v := ?_) (a' := ?_) #[true, true, true, true, true, true, true, true, true, true, true, true, true, false, false] rfl rfl (any_of HT_.out (by kernel_rfl)) (fun _ _ _ h => h) (Or.inl ⟨by rfl, ?_⟩) ?_ ?_
             rotate_left
             ·intro w'
              go_simp
              with_reducible rfl
             rotate_left
             ·simp only [Act.put, List.setIfInBounds_toArray, List.set_cons_zero, List.set_cons_succ, i64_w, i32_w]
              rfl
             refine last_ (i := 13) (N := none) #[true, true, true, true, true, true, true, true, true, true, true, true, true, true, false] rfl rfl (one_of HT_.out (by kernel_rfl)) (by decide) (fun K hK => ?_)
             have an8 : M6.cell? ⟨a9, 1, none⟩ = some (.slice h4 a7.length h5) := (blk_cell a0.out 1).trans rfl
             have af9 := blk_frozen a0.out 1
             have W5 := c6.out
             have W6 := c8.out
             have W7 := c7.out
             have W8 := b7.out
             refine skip_ (w1 := ?_) (by rfl) rfl ?_ ?_
             rotate_left
             ·go_simp
              rfl
             refine hK.out _ _ ?_
             clear hK K
             refine pure_ (i := 14) (N := some 6) (v := ?_) (a' := ?_) #[true, true, true, true, true, true, true, true, true, true, true, true, true, true, true] rfl rfl (any_of HT_.out (by kernel_rfl)) (fun _ _ _ h => h) (Or.inl ⟨by rfl, ?_⟩) ?_ ?_
             rotate_left
             ·intro w'
              go_simp
              with_reducible rfl
             rotate_left
             ·simp only [Act.put, List.setIfInBounds_toArray, List.set_cons_zero, List.set_cons_succ, i64_w, i32_w]
              rfl
             refine done_ (done_of HT_.out (by kernel_rfl)) ?_
             try go_wp2
             go_roundg e2
             case measure => have := i1.out; have := h9.out; omega
             case rel => exact ⟨(false), (wrap64 (d3 + 1)), (wrap64 (a2 + 1)), (j3), (t7), (.slice q8 j3.length q9), (.slice C3 t7.length C4), (rfl), (rfl), (rfl), H', ⟨by have := i1.out; have := h9.out; omega⟩, ⟨by exact Kd.R_mono (Kd.R_far (p := ⟨a9, 1, none⟩) (Kd.R_far (p := ⟨a9, 0, none⟩) (Kd.R_types f9.out a0.out (by decide)) (fun _ hk => hk.2) (.slice q8 j3.length q9)) (fun _ hk => hk.2) (.slice C3 t7.length C4)) (fun _ hk => trivial)⟩, ⟨by exact Kd.R_mono (Kd.R_far (p := ⟨a9, 1, none⟩) (Kd.R_far (p := ⟨a9, 0, none⟩) (Kd.R_types H8.out a0.out (by decide)) (fun _ hk => hk.2) (.slice q8 j3.length q9)) (fun _ hk => hk.2) (.slice C3 t7.length C4)) (fun _ hk => trivial)⟩, ⟨by refine blk_far ?_ c6.out _; refine blk_far ?_ c6.out _; exact a3.out⟩, ⟨by refine blk_put (cs := #[.slice q8 j3.length q9, .slice h4 a7.length h5]) ?_ 1 _ rfl; refine blk_put (cs := #[.slice d0 a5.length d1, .slice h4 a7.length h5]) ?_ 0 _ rfl; exact a0.out⟩, ⟨by repeat (first | (with_reducible first | exact HB.out | apply below_alloc | apply pw_below_drewN | apply below_drew1 | refine below_set ?_ g1.out | refine below_set ?_ g2.out | refine below_set ?_ i0.out) | exact HB.out)⟩⟩
            ·rw [if_neg C1] at H
             exact absurd H (by simp)
           ·rw [if_neg B9] at H
            exact absurd H (by simp)
     ·rw [if_neg t9] at H
      exact absurd H (by simp)
    ·rw [if_neg t8] at H
     exact absurd H (by simp)
   ·rw [if_neg p8] at H
    have z2 : decide (a2 < (l0.length : Int)) = false := decide_eq_false p8
    clear p8
    by_cases p7 : d3 > 0
    ·rw [if_pos p7] at H
     have M7 : decide (0 < d3) = true := decide_eq_true p7
     clear p7
     simp only [Option.some.injEq, Prod.mk.injEq] at H
     obtain ⟨rfl, rfl, rfl⟩ := H
     try go_wp2
     have b0 := Aside0.mk (Kd.R_drew a6.out)
     have b1 := Aside0.mk (Kd.R_drew a4.out)
     have b2 := Aside0.mk (blk_drew a3.out)
     have b3 := Aside0.mk (blk_drew a0.out)
     have b4 := Aside0.mk (below_drew1 HB.out)
     clear a6
     clear a4
     clear a3
     clear a0
     clear HB
     have a6 := b0
     have a4 := b1
     have a3 := b2
     have a0 := b3
     have HB := b4
     clear b0 b1 b2 b3 b4
     obtain ⟨o6, o7, I1⟩ := Kd.R_slice a6.out
     (first | subst I1 | (injection I1 with d4 e3 d5; have e4 := d4.symm; have e5 := d5.symm; clear d4 e3 d5; subst e4; subst e5))
     obtain ⟨r0, r4, I2⟩ := Kd.R_slice a4.out
     (first | subst I2 | (injection I2 with d4 e3 d5; have e4 := d4.symm; have e5 := d5.symm; clear d4 e3 d5; subst e4; subst e5))
     refine start_ (n := 11) (S := fun w' => w'.cell? ⟨a9, 0, none⟩ = some (.slice o6 a5.length o7) ∧ w'.cell? ⟨a9, 1, none⟩ = some (.slice r0 a7.length r4)) (ds := []) #[false, false, false, false, false, false, false, false, false, false, false] (by kernel_rfl) rfl rfl ⟨(blk_cell a0.out 0).trans rfl, (blk_cell a0.out 1).trans rfl⟩ (fun hHeld => ?_); refine with_tabW pats_one.tab26 pats_one.bits26 (fun HT_ HW_ => ?_)
     generalize wr.drew = M8 at a6 a4 a3 a0 HB hHeld ⊢
     refine pure_ (i := 1) (N := some 130) (v := ?_) (a' := ?_) #[false, true, false, false, false, false, false, false, false, false, false] rfl rfl (any_of HT_.out (by kernel_rfl)) (fun _ _ _ h => h) (Or.inl ⟨by rfl, ?_⟩) ?_ ?_
     rotate_left
     ·intro w'
      go_simp
      with_reducible rfl
     rotate_left
     ·simp only [Act.put, List.setIfInBounds_toArray, List.set_cons_zero, List.set_cons_succ, i64_w, i32_w]
      rfl
     refine pure_ (i := 2) (N := some 131) (v := ?_) (a' := ?_) #[false, true, true, false, false, false, false, false, false, false, false] rfl rfl (any_of HT_.out (by kernel_rfl)) (fun _ _ _ h => h) (Or.inl ⟨by rfl, ?_⟩) ?_ ?_
     rotate_left
     ·intro w'
      go_simp
      with_reducible rfl
     rotate_left
     ·simp only [Act.put, List.setIfInBounds_toArray, List.set_cons_zero, List.set_cons_succ, i64_w, i32_w]
      rfl
     refine pure_ (i := 3) (N := some 132) (v := ?_) (a' := ?_) #[false, true, true, true, false, false, false, false, false, false, false] rfl rfl (any_of HT_.out (by kernel_rfl)) (fun _ _ _ h => h) (Or.inl ⟨by rfl, ?_⟩) ?_ ?_
     rotate_left
     ·intro w'
      go_simp
      with_reducible rfl
     rotate_left
     ·simp only [Act.put, List.setIfInBounds_toArray, List.set_cons_zero, List.set_cons_succ, i64_w, i32_w]
      rfl
     refine pure_ (i := 4) (N := some 133) (v := ?_) (a' := ?_) #[false, true, true, true, true, false, false, false, false, false, false] rfl rfl (any_of HT_.out (by kernel_rfl)) (fun _ _ _ h => h) (Or.inl ⟨by rfl, ?_⟩) ?_ ?_
     rotate_left
     ·intro w'
      go_simp
      with_reducible rfl
     rotate_left
     ·simp only [Act.put, List.setIfInBounds_toArray, List.set_cons_zero, List.set_cons_succ, i64_w, i32_w]
      rfl
     refine take_ (i := 0) (N := some 129) (v := ?_) (a' := ?_) #[true, true, true, true, true, false, false, false, false, false, false] rfl rfl (take_ofW HT_.out HW_.out (by kernel_rfl)) (fun _ _ _ h => h) (Or.inl ⟨by rfl, ?_⟩) hHeld ?_ ?_
     rotate_left
     ·rintro w' ⟨s0, s1⟩
      go_simp
      with_reducible rfl
     rotate_left
     ·simp only [Act.put, List.setIfInBounds_toArray, List.set_cons_zero, List.set_cons_succ, i64_w, i32_w]
      rfl
     refine take_ (i := 5) (N := some 134) (v := ?_) (a' := ?_) #[true, true, true, true, true, true, false, false, false, false, false] rfl rfl (take_ofW HT_.out HW_.out (by kernel_rfl)) (fun _ _ _ h => h) (Or.inl ⟨by rfl, ?_⟩) hHeld ?_ ?_
     rotate_left
     ·rintro w' ⟨s0, s1⟩
      go_simp
      with_reducible rfl
     rotate_left
     ·simp only [Act.put, List.setIfInBounds_toArray, List.set_cons_zero, List.set_cons_succ, i64_w, i32_w]
      rfl
     refine pure_ (i := 6) (N := some 135) (v := ?_) (a' := ?_) #[true, true, true, true, true, true, true, false, false, false, false] rfl rfl (any_of HT_.out (by kernel_rfl)) (fun _ _ _ h => h) (Or.inl ⟨by rfl, ?_⟩) ?_ ?_
     rotate_left
     ·intro w'
      go_simp
      with_reducible rfl
     rotate_left
     ·simp only [Act.put, List.setIfInBounds_toArray, List.set_cons_zero, List.set_cons_succ, i64_w, i32_w]
      rfl
     refine pure_ (i := 7) (N := some 136) (v := ?_) (a' := ?_) #[true, true, true, true, true, true, true, true, false, false, false] rfl rfl (any_of HT_.out (by kernel_rfl)) (fun _ _ _ h => h) (Or.inl ⟨by rfl, ?_⟩) ?_ ?_
     rotate_left
     ·intro w'
      go_simp
      with_reducible rfl
     rotate_left
     ·simp only [Act.put, List.setIfInBounds_toArray, List.set_cons_zero, List.set_cons_succ, i64_w, i32_w]
      rfl
     refine pure_ (i := 8) (N := some 137) (v := ?_) (a' := ?_) #[true, true, true, true, true, true, true, true, true, false, false] rfl rfl (any_of HT_.out (by kernel_rfl)) (fun _ _ _ h => h) (Or.inl ⟨by rfl, ?_⟩) ?_ ?_
     rotate_left
     ·intro w'
      go_simp
      with_reducible rfl
     rotate_left
     ·simp only [Act.put, List.setIfInBounds_toArray, List.set_cons_zero, List.set_cons_succ, i64_w, i32_w]
      rfl
     refine one_ (i := 9) (N := none) #[true, true, true, true, true, true, true, true, true, true, false] rfl rfl (one_of HT_.out (by kernel_rfl)) (by decide) (fun K hK => ?_)
     have an9 : M8.cell? ⟨b6, 0, none⟩ = some (.slice none 0 0) := (blk_cell a3.out 0).trans rfl
     have ag0 := blk_frozen a3.out 0
     have W9 := c7.out
     have X0 := c6.out
     have ao0 : M8.cell? ⟨b6, 1, none⟩ = some (.slice none 0 0) := (blk_cell a3.out 1).trans rfl
     have ag1 := blk_frozen a3.out 1
     have X1 := c7.out
     have X2 := c6.out
     refine skip_ (w1 := ?_) (by rfl) rfl ?_ ?_
     rotate_left
     ·go_simp
      rfl
     refine hK.out _ _ ⟨((cell_far (p := ⟨b6, _, none⟩) c7.out _).trans (((cell_far (p := ⟨b6, _, none⟩) c7.out _).trans (hHeld.1)))), ((cell_far (p := ⟨b6, _, none⟩) c7.out _).trans (((cell_far (p := ⟨b6, _, none⟩) c7.out _).trans (hHeld.2))))⟩ (fun hHeld => ?_)
     clear hK K
     refine pure_ (i := 10) (N := some 3) (v := ?_) (a' := ?_) #[true, true, true, true, true, true, true, true, true, true, true] rfl rfl (any_of HT_.out (by kernel_rfl)) (fun _ _ _ h => h) (Or.inl ⟨by rfl, ?_⟩) ?_ ?_
     rotate_left
     ·intro w'
      go_simp
      with_reducible rfl
     rotate_left
     ·simp only [Act.put, List.setIfInBounds_toArray, List.set_cons_zero, List.set_cons_succ, i64_w, i32_w]
      rfl
     refine done_ (done_of HT_.out (by kernel_rfl)) ?_
     try go_wp2
     refine bodyPost_ret (results_ct rfl _ _ b6 39 #[.slice o6 a5.length o7, .slice r0 a7.length r4] (0, 0) _ rfl (by refine blk_put (cs := #[.slice o6 a5.length o7, .slice none 0 0]) ?_ 1 _ rfl; refine blk_put (cs := #[.slice none 0 0, .slice none 0 0]) ?_ 0 _ rfl; exact a3.out) Try.underlying39 rfl (by kernel_rfl)) rfl ?_
     exact ⟨_, _, rfl, by exact Kd.R_mono (Kd.R_far (p := ⟨b6, 1, none⟩) (Kd.R_far (p := ⟨b6, 0, none⟩) (Kd.R_types a6.out a3.out (by decide)) (fun _ hk => hk.2) (.slice o6 a5.length o7)) (fun _ hk => hk.2) (.slice r0 a7.length r4)) (fun _ hk => trivial), by exact Kd.R_mono (Kd.R_far (p := ⟨b6, 1, none⟩) (Kd.R_far (p := ⟨b6, 0, none⟩) (Kd.R_types a4.out a3.out (by decide)) (fun _ hk => hk.2) (.slice o6 a5.length o7)) (fun _ hk => hk.2) (.slice r0 a7.length r4)) (fun _ hk => trivial), by repeat (first | (with_reducible first | exact HB.out | apply below_alloc | apply pw_below_drewN | apply below_drew1 | refine below_set ?_ g1.out | refine below_set ?_ g2.out) | exact HB.out)⟩
    ·rw [if_neg p7] at H
     have M7 : decide (0 < d3) = false := decide_eq_false p7
     clear p7
     simp only [Option.some.injEq, Prod.mk.injEq] at H
     obtain ⟨rfl, rfl, rfl⟩ := H
     try go_wp2
     have b0 := Aside0.mk (Kd.R_drew a6.out)
     have b1 := Aside0.mk (Kd.R_drew a4.out)
     have b2 := Aside0.mk (blk_drew a3.out)
     have b3 := Aside0.mk (blk_drew a0.out)
     have b4 := Aside0.mk (below_drew1 HB.out)
     clear a6
     clear a4
     clear a3
     clear a0
     clear HB
     have a6 := b0
     have a4 := b1
     have a3 := b2
     have a0 := b3
     have HB := b4
     clear b0 b1 b2 b3 b4
     obtain ⟨o8, o9, I3⟩ := Kd.R_slice a6.out
     (first | subst I3 | (injection I3 with d4 e3 d5; have e4 := d4.symm; have e5 := d5.symm; clear d4 e3 d5; subst e4; subst e5))
     obtain ⟨r5, r6, I4⟩ := Kd.R_slice a4.out
     (first | subst I4 | (injection I4 with d4 e3 d5; have e4 := d4.symm; have e5 := d5.symm; clear d4 e3 d5; subst e4; subst e5))
     refine start_ (n := 11) (S := fun w' => w'.cell? ⟨a9, 0, none⟩ = some (.slice o8 a5.length o9) ∧ w'.cell? ⟨a9, 1, none⟩ = some (.slice r5 a7.length r6)) (ds := []) #[false, false, false, false, false, false, false, false, false, false, false] (by kernel_rfl) rfl rfl ⟨(blk_cell a0.out 0).trans rfl, (blk_cell a0.out 1).trans rfl⟩ (fun hHeld => ?_); refine with_tabW pats_one.tab26 pats_one.bits26 (fun HT_ HW_ => ?_)
     generalize wr.drew = M9 at a6 a4 a3 a0 HB hHeld ⊢
     refine pure_ (i := 1) (N := some 130) (v := ?_) (a' := ?_) #[false, true, false, false, false, false, false, false, false, false, false] rfl rfl (any_of HT_.out (by kernel_rfl)) (fun _ _ _ h => h) (Or.inl ⟨by rfl, ?_⟩) ?_ ?_
     rotate_left
     ·intro w'
      go_simp
      with_reducible rfl
     rotate_left
     ·simp only [Act.put, List.setIfInBounds_toArray, List.set_cons_zero, List.set_cons_succ, i64_w, i32_w]
      rfl
     refine pure_ (i := 2) (N := some 131) (v := ?_) (a' := ?_) #[false, true, true, false, false, false, false, false, false, false, false] rfl rfl (any_of HT_.out (by kernel_rfl)) (fun _ _ _ h => h) (Or.inl ⟨by rfl, ?_⟩) ?_ ?_
     rotate_left
     ·intro w'
      go_simp
      with_reducible rfl
     rotate_left
     ·simp only [Act.put, List.setIfInBounds_toArray, List.set_cons_zero, List.set_cons_succ, i64_w, i32_w]
      rfl
     refine pure_ (i := 3) (N := some 132) (v := ?_) (a' := ?_) #[false, true, true, true, false, false, false, false, false, false, false] rfl rfl (any_of HT_.out (by kernel_rfl)) (fun _ _ _ h => h) (Or.inl ⟨by rfl, ?_⟩) ?_ ?_
     rotate_left
     ·intro w'
      go_simp
      with_reducible rfl
     rotate_left
     ·simp only [Act.put, List.setIfInBounds_toArray, List.set_cons_zero, List.set_cons_succ, i64_w, i32_w]
      rfl
     refine pure_ (i := 4) (N := some 133) (v := undef) (a' := ?_) #[false, true, true, true, true, false, false, false, false, false, false] rfl rfl (any_of HT_.out (by kernel_rfl)) (fun _ _ _ h => h) (Or.inr ⟨by rfl, rfl⟩) ?_ ?_
     rotate_left
     ·simp only [Act.put, List.setIfInBounds_toArray, List.set_cons_zero, List.set_cons_succ, i64_w, i32_w]
      rfl
     refine pure_ (i := 5) (N := some 134) (v := undef) (a' := ?_) #[false, true, true, true, true, true, false, false, false, false, false] rfl rfl (any_of HT_.out (by kernel_rfl)) (fun _ _ _ h => h) (Or.inr ⟨by rfl, rfl⟩) ?_ ?_
     rotate_left
     ·simp only [Act.put, List.setIfInBounds_toArray, List.set_cons_zero, List.set_cons_succ, i64_w, i32_w]
      rfl
     refine pure_ (i := 6) (N := some 135) (v := undef) (a' := ?_) #[false, true, true, true, true, true, true, false, false, false, false] rfl rfl (any_of HT_.out (by kernel_rfl)) (fun _ _ _ h => h) (Or.inr ⟨by rfl, rfl⟩) ?_ ?_
     rotate_left
     ·simp only [Act.put, List.setIfInBounds_toArray, List.set_cons_zero, List.set_cons_succ, i64_w, i32_w]
      rfl
     refine pure_ (i := 7) (N := some 136) (v := undef) (a' := ?_) #[false, true, true, true, true, true, true, true, false, false, false] rfl rfl (any_of HT_.out (by kernel_rfl)) (fun _ _ _ h => h) (Or.inr ⟨by rfl, rfl⟩) ?_ ?_
     rotate_left
     ·simp only [Act.put, List.setIfInBounds_toArray, List.set_cons_zero, List.set_cons_succ, i64_w, i32_w]
      rfl
     refine pure_ (i := 8) (N := some 137) (v := ?_) (a' := ?_) #[false, true, true, true, true, true, true, true, true, false, false] rfl rfl (any_of HT_.out (by kernel_rfl)) (fun _ _ _ h => h) (Or.inl ⟨by rfl, ?_⟩) ?_ ?_
     rotate_left
     ·intro w'
      go_simp
      with_reducible rfl
     rotate_left
     ·simp only [Act.put, List.setIfInBounds_toArray, List.set_cons_zero, List.set_cons_succ, i64_w, i32_w]
      rfl
     refine take_ (i := 0) (N := some 129) (v := ?_) (a' := ?_) #[true, true, true, true, true, true, true, true, true, false, false] rfl rfl (take_ofW HT_.out HW_.out (by kernel_rfl)) (fun _ _ _ h => h) (Or.inl ⟨by rfl, ?_⟩) hHeld ?_ ?_
     rotate_left
     ·rintro w' ⟨s0, s1⟩
      go_simp
      with_reducible rfl
     rotate_left
     ·simp only [Act.put, List.setIfInBounds_toArray, List.set_cons_zero, List.set_cons_succ, i64_w, i32_w]
      rfl
     refine one_ (i := 9) (N := none) #[true, true, true, true, true, true, true, true, true, true, false] rfl rfl (one_of HT_.out (by kernel_rfl)) (by decide) (fun K hK => ?_)
     have ao1 : M9.cell? ⟨b6, 0, none⟩ = some (.slice none 0 0) := (blk_cell a3.out 0).trans rfl
     have ag2 := blk_frozen a3.out 0
     have X3 := c7.out
     have X4 := c6.out
     have ao2 : M9.cell? ⟨b6, 1, none⟩ = some (.slice none 0 0) := (blk_cell a3.out 1).trans rfl
     have ag3 := blk_frozen a3.out 1
     have X5 := c7.out
     have X6 := c6.out
     refine skip_ (w1 := ?_) (by rfl) rfl ?_ ?_
     rotate_left
     ·go_simp
      rfl
     refine hK.out _ _ ⟨((cell_far (p := ⟨b6, _, none⟩) c7.out _).trans (((cell_far (p := ⟨b6, _, none⟩) c7.out _).trans (hHeld.1)))), ((cell_far (p := ⟨b6, _, none⟩) c7.out _).trans (((cell_far (p := ⟨b6, _, none⟩) c7.out _).trans (hHeld.2))))⟩ (fun hHeld => ?_)
     clear hK K
     refine pure_ (i := 10) (N := some 3) (v := ?_) (a' := ?_) #[true, true, true, true, true, true, true, true, true, true, true] rfl rfl (any_of HT_.out (by kernel_rfl)) (fun _ _ _ h => h) (Or.inl ⟨by rfl, ?_⟩) ?_ ?_
     rotate_left
     ·intro w'
      go_simp
      with_reducible rfl
     rotate_left
     ·simp only [Act.put, List.setIfInBounds_toArray, List.set_cons_zero, List.set_cons_succ, i64_w, i32_w]
      rfl
     refine done_ (done_of HT_.out (by kernel_rfl)) ?_
     try go_wp2
     refine bodyPost_ret (results_ct rfl _ _ b6 39 #[.slice o8 a5.length o9, .slice r5 a7.length r6] (0, 0) _ rfl (by refine blk_put (cs := #[.slice o8 a5.length o9, .slice none 0 0]) ?_ 1 _ rfl; refine blk_put (cs := #[.slice none 0 0, .slice none 0 0]) ?_ 0 _ rfl; exact a3.out) Try.underlying39 rfl (by kernel_rfl)) rfl ?_
     exact ⟨_, _, rfl, by exact Kd.R_mono (Kd.R_far (p := ⟨b6, 1, none⟩) (Kd.R_far (p := ⟨b6, 0, none⟩) (Kd.R_types a6.out a3.out (by decide)) (fun _ hk => hk.2) (.slice o8 a5.length o9)) (fun _ hk => hk.2) (.slice r5 a7.length r6)) (fun _ hk => trivial), by exact Kd.R_mono (Kd.R_far (p := ⟨b6, 1, none⟩) (Kd.R_far (p := ⟨b6, 0, none⟩) (Kd.R_types a4.out a3.out (by decide)) (fun _ hk => hk.2) (.slice o8 a5.length o9)) (fun _ hk => hk.2) (.slice r5 a7.length r6)) (fun _ hk => trivial), by repeat (first | (with_reducible first | exact HB.out | apply below_alloc | apply pw_below_drewN | apply below_drew1 | refine below_set ?_ g1.out | refine below_set ?_ g2.out) | exact HB.out)⟩
end Go.Proofs.Ytoefjhdcipgacaa.PA
end
section
namespace Go.Proofs.Ytoefjhdcipgacaa.Hy
open Go.RowKit Go.Proofs.YtoefjhdcipgacaaW.PrintWords Go.Proofs.YtoefjhdcipgacaaW.PrintLast Go.Proofs.YtoefjhdcipgacaaW.PrintMore
open Go.Proofs.Ytoefjhdcipgacaa.PA
attribute [local go_sem] max2_int min2_int max_two min_two
def First (l : List S39) (key : List Int) (i : Int) : Prop := (i = -1 ∧ ∀ p ∈ l, p.f0 ≠ key) ∨ ∃ j : Nat, i = j ∧ j < l.length ∧ (rd_T39 l (j : Int)).f0 = key ∧ ∀ p ∈ l.take j, p.f0 ≠ key
def hasKey (l : List S39) (key : List Int) : Bool := l.any fun p => decide (p.f0 = key)
theorem First.has {l : List S39} {key : List Int} {i : Int} (h : First l key i) : decide (i ≥ 0) = hasKey l key := by
  rcases h with ⟨rfl, h⟩ | ⟨j, rfl, hj, hk, _⟩
  · have : hasKey l key = false := by
      rw [hasKey, List.any_eq_false]
      intro p hp
      simpa using h p hp
    rw [this]
    rfl
  · have : hasKey l key = true := by
      rw [hasKey, List.any_eq_true]
      exact ⟨rd_T39 l (j : Int), Tr.rd_T39_mem l j hj, decide_eq_true hk⟩
    rw [this]
    exact decide_eq_true (by omega)
theorem isParsed_calls (A0 : Option Addr) (c0 : Nat) (x : List Int) (v1 : Value) (A1 : Option Addr) (c1 n1 : Nat) (b : Nat) (Ak : Option Addr) (ck : Nat) (key : List Int) (u : Value) (w : World) (hv : v1 = .slice A1 n1 c1) (hr0 : Kd.C (Kd.int .i32) w A0 x.length x) (hr1 : Kd.C (Kd.int .i32) w Ak key.length key)
    (hb : w.heap[b]? = some (.cells #[.slice Ak key.length ck, u] 39 (0, 0))) :
    Calls Try.prog 55 #[.agg #[.slice A0 x.length c0, v1], .pointer (some ⟨b, 0, none⟩)] w fun e w' => e = .returned (.bool (decide (x = key))) ∧ Below w.heap.size w w' := by
  subst hv
  have H0 := Aside0.mk hr0
  have H1 := Aside0.mk hr1
  have q0 : w.cell? ⟨b, 0, none⟩ = some (.slice Ak key.length ck) := by rw [blk_cell hb 0]; rfl
  have qa : (w.alloc (.cells #[.slice A0 x.length c0, .slice A1 n1 c1] 39)).cell? ⟨b, 0, none⟩ = some (.slice Ak key.length ck) := by rw [blk_cell (blk_alloc hb _) 0]; rfl
  clear hr0 hr1 hb
  go_enter Try.func55, Try.ntmps55
  go_wp2_with (go_at_call 47; refine (equal_calls A0 c0 x Ak ck key _ (Kd.C_below H0.out (below_alloc (Below.refl _ _) _)) (Kd.C_below H1.out (below_alloc (Below.refl _ _) _))).mono ?_; rintro e w2 ⟨rfl, nd, rfl⟩)
  go_ret
  exact ⟨rfl, pw_below_drewN (below_alloc (Below.refl _ _) _) _⟩
set_option maxHeartbeats 4000000 in
set_option maxRecDepth 100000 in
theorem indexParsed_calls (l : List S39) (A : Option Addr) (c : Nat) (b : Nat) (Ak : Option Addr) (ck : Nat) (key : List Int) (u : Value) (w : World) (hl : Kd.C k39 w A l.length l) (hr1 : Kd.C (Kd.int .i32) w Ak key.length key)
    (hb : w.heap[b]? = some (.cells #[.slice Ak key.length ck, u] 39 (0, 0))) :
    Calls Try.prog 45 #[.slice A l.length c, .func (.func 55) #[] #[.pointer (some ⟨b, 0, none⟩)]] w fun e w' => ∃ i : Int, e = .returned (.int .i64 i) ∧ First l key i ∧ Below w.heap.size w w' := by
  have HL := Aside0.mk hl
  have hm : l.length ≤ 9223372036854775807 := Kd.C_max hl
  have HK := Aside0.mk hr1
  have HP := Aside0.mk hb
  clear hl hr1 hb
  go_enter Try.func45, Try.ntmps45
  go_wp2_with fail
  go_loopg [5, 8] l.length (fun g v5 v8 w' => ∃ j : Nat, v8 = .int .i64 j ∧ Aside0 (g + j = l.length) ∧ Aside0 (∀ p ∈ l.take j, p.f0 ≠ key) ∧ Aside0 (Below w.heap.size w w'))
  case atStart => exact ⟨0, rfl, ⟨rfl⟩, ⟨fun p hp => absurd hp List.not_mem_nil⟩, ⟨Below.refl _ _⟩⟩
  case round =>
    obtain ⟨j, rfl, HG, HT, HB⟩ := hrel
    by_cases hj : j < l.length
    · obtain ⟨ad, A0, c0, A1, c1, e1, hx0, hx1, _, hi0, _, _⟩ := at_T39 HL.out (j : Int) (by omega) (by omega)
      subst e1
      replace hx0 := (HB.out.cell (World.block_lt_of_cell? w _ hx0)).trans hx0
      replace hx1 := (HB.out.cell (World.block_lt_of_cell? w _ hx1)).trans hx1
      simp only [Int.toNat_natCast] at hx0 hx1
      have p1 : (0 : Int) ≤ (j : Int) := by omega
      have q1 : (j : Int) < (l.length : Int) := by omega
      obtain ⟨x, hxe⟩ : ∃ x, rd_T39 l (j : Int) = x := ⟨_, rfl⟩
      rw [hxe] at hx0 hx1 hi0
      have HX := Aside0.mk hxe
      have HI := Aside0.mk (Kd.C_below hi0 HB.out)
      have HKw := Aside0.mk (Kd.C_below HK.out HB.out)
      have HPw := Aside0.mk (blk_below HP.out HB.out)
      clear hxe hi0
      by_cases hh : x.f0 = key
      · have HD : Aside0 (decide (x.f0 = key) = true) := ⟨decide_eq_true hh⟩
        have HH : Aside0 (First l key (j : Int)) := ⟨.inr ⟨j, rfl, hj, by rw [HX.out]; exact hh, HT.out⟩⟩
        clear hh
        go_wp2_with (go_at_call 55; refine (isParsed_calls A0 c0 x.f0 _ A1 c1 x.f1.length b Ak ck key u _ rfl HI.out HKw.out HPw.out).mono ?_; rw [HD.out]; rintro e w2 ⟨rfl, hb⟩; replace HB := Aside0.mk (below_step HB.out hb); clear hb)
        go_ret
        exact ⟨_, rfl, HH.out, HB.out⟩
      · have HD : Aside0 (decide (x.f0 = key) = false) := ⟨decide_eq_false hh⟩
        have HH := Aside0.mk hh
        clear hh
        go_wp2_with (go_at_call 55; refine (isParsed_calls A0 c0 x.f0 _ A1 c1 x.f1.length b Ak ck key u _ rfl HI.out HKw.out HPw.out).mono ?_; rw [HD.out]; rintro e w2 ⟨rfl, hb⟩; replace HB := Aside0.mk (below_step HB.out hb); clear hb)
        go_roundg (l.length - (j + 1))
        case measure => have := HG.out; omega
        case rel =>
          refine ⟨j + 1, by go_num, ⟨by omega⟩, ⟨?_⟩, HB⟩
          have h2 : l[j] = x := by rw [← HX.out]; simp [rd_T39, List.getD_eq_getElem?_getD, List.getElem?_eq_getElem hj]
          intro p hp
          rw [List.take_succ_eq_append_getElem hj, h2] at hp
          rcases List.mem_append.1 hp with hp | hp
          · exact HT.out p hp
          · rw [List.mem_singleton.1 hp]; exact HH.out
    · have hje : j = l.length := by have := HG.out; omega
      subst hje
      have h1 := HT.out
      rw [List.take_length] at h1
      have HH : Aside0 (First l key (-1)) := ⟨.inl ⟨rfl, h1⟩⟩
      clear h1 hj HT HG
      go_wp2_with fail
      go_ret
      exact ⟨_, rfl, HH.out, HB.out⟩
theorem isTold_calls (A0 : Option Addr) (c0 : Nat) (x : List Int) (v1 : Value) (A1 : Option Addr) (c1 n1 : Nat) (b : Nat) (Ak : Option Addr) (ck : Nat) (key : List Int) (w : World) (hv : v1 = .slice A1 n1 c1) (hr0 : Kd.C (Kd.int .i32) w A0 x.length x) (hr1 : Kd.C (Kd.int .i32) w Ak key.length key)
    (hb : w.heap[b]? = some (.cells #[.slice Ak key.length ck] 23 (0, 0))) :
    Calls Try.prog 46 #[.agg #[.slice A0 x.length c0, v1], .pointer (some ⟨b, 0, none⟩)] w fun e w' => e = .returned (.bool (decide (x = key))) ∧ Below w.heap.size w w' := by
  subst hv
  have H0 := Aside0.mk hr0
  have H1 := Aside0.mk hr1
  have q0 : w.cell? ⟨b, 0, none⟩ = some (.slice Ak key.length ck) := by rw [blk_cell hb 0]; rfl
  have qa : (w.alloc (.cells #[.slice A0 x.length c0, .slice A1 n1 c1] 39)).cell? ⟨b, 0, none⟩ = some (.slice Ak key.length ck) := by rw [blk_cell (blk_alloc hb _) 0]; rfl
  clear hr0 hr1 hb
  go_enter Try.func46, Try.ntmps46
  go_wp2_with (go_at_call 47; refine (equal_calls A0 c0 x Ak ck key _ (Kd.C_below H0.out (below_alloc (Below.refl _ _) _)) (Kd.C_below H1.out (below_alloc (Below.refl _ _) _))).mono ?_; rintro e w2 ⟨rfl, nd, rfl⟩)
  go_ret
  exact ⟨rfl, pw_below_drewN (below_alloc (Below.refl _ _) _) _⟩
set_option maxHeartbeats 4000000 in
set_option maxRecDepth 100000 in
theorem indexTold_calls (l : List S39) (A : Option Addr) (c : Nat) (b : Nat) (Ak : Option Addr) (ck : Nat) (key : List Int) (w : World) (hl : Kd.C k39 w A l.length l) (hr1 : Kd.C (Kd.int .i32) w Ak key.length key)
    (hb : w.heap[b]? = some (.cells #[.slice Ak key.length ck] 23 (0, 0))) :
    Calls Try.prog 45 #[.slice A l.length c, .func (.func 46) #[] #[.pointer (some ⟨b, 0, none⟩)]] w fun e w' => ∃ i : Int, e = .returned (.int .i64 i) ∧ First l key i ∧ Below w.heap.size w w' := by
  have HL := Aside0.mk hl
  have hm : l.length ≤ 9223372036854775807 := Kd.C_max hl
  have HK := Aside0.mk hr1
  have HP := Aside0.mk hb
  clear hl hr1 hb
  go_enter Try.func45, Try.ntmps45
  go_wp2_with fail
  go_loopg [5, 8] l.length (fun g v5 v8 w' => ∃ j : Nat, v8 = .int .i64 j ∧ Aside0 (g + j = l.length) ∧ Aside0 (∀ p ∈ l.take j, p.f0 ≠ key) ∧ Aside0 (Below w.heap.size w w'))
  case atStart => exact ⟨0, rfl, ⟨rfl⟩, ⟨fun p hp => absurd hp List.not_mem_nil⟩, ⟨Below.refl _ _⟩⟩
  case round =>
    obtain ⟨j, rfl, HG, HT, HB⟩ := hrel
    by_cases hj : j < l.length
    · obtain ⟨ad, A0, c0, A1, c1, e1, hx0, hx1, _, hi0, _, _⟩ := at_T39 HL.out (j : Int) (by omega) (by omega)
      subst e1
      replace hx0 := (HB.out.cell (World.block_lt_of_cell? w _ hx0)).trans hx0
      replace hx1 := (HB.out.cell (World.block_lt_of_cell? w _ hx1)).trans hx1
      simp only [Int.toNat_natCast] at hx0 hx1
      have p1 : (0 : Int) ≤ (j : Int) := by omega
      have q1 : (j : Int) < (l.length : Int) := by omega
      obtain ⟨x, hxe⟩ : ∃ x, rd_T39 l (j : Int) = x := ⟨_, rfl⟩
      rw [hxe] at hx0 hx1 hi0
      have HX := Aside0.mk hxe
      have HI := Aside0.mk (Kd.C_below hi0 HB.out)
      have HKw := Aside0.mk (Kd.C_below HK.out HB.out)
      have HPw := Aside0.mk (blk_below HP.out HB.out)
      clear hxe hi0
      by_cases hh : x.f0 = key
      · have HD : Aside0 (decide (x.f0 = key) = true) := ⟨decide_eq_true hh⟩
        have HH : Aside0 (First l key (j : Int)) := ⟨.inr ⟨j, rfl, hj, by rw [HX.out]; exact hh, HT.out⟩⟩
        clear hh
        go_wp2_with (go_at_call 46; refine (isTold_calls A0 c0 x.f0 _ A1 c1 x.f1.length b Ak ck key _ rfl HI.out HKw.out HPw.out).mono ?_; rw [HD.out]; rintro e w2 ⟨rfl, hb⟩; replace HB := Aside0.mk (below_step HB.out hb); clear hb)
        go_ret
        exact ⟨_, rfl, HH.out, HB.out⟩
      · have HD : Aside0 (decide (x.f0 = key) = false) := ⟨decide_eq_false hh⟩
        have HH := Aside0.mk hh
        clear hh
        go_wp2_with (go_at_call 46; refine (isTold_calls A0 c0 x.f0 _ A1 c1 x.f1.length b Ak ck key _ rfl HI.out HKw.out HPw.out).mono ?_; rw [HD.out]; rintro e w2 ⟨rfl, hb⟩; replace HB := Aside0.mk (below_step HB.out hb); clear hb)
        go_roundg (l.length - (j + 1))
        case measure => have := HG.out; omega
        case rel =>
          refine ⟨j + 1, by go_num, ⟨by omega⟩, ⟨?_⟩, HB⟩
          have h2 : l[j] = x := by rw [← HX.out]; simp [rd_T39, List.getD_eq_getElem?_getD, List.getElem?_eq_getElem hj]
          intro p hp
          rw [List.take_succ_eq_append_getElem hj, h2] at hp
          rcases List.mem_append.1 hp with hp | hp
          · exact HT.out p hp
          · rw [List.mem_singleton.1 hp]; exact HH.out
    · have hje : j = l.length := by have := HG.out; omega
      subst hje
      have h1 := HT.out
      rw [List.take_length] at h1
      have HH : Aside0 (First l key (-1)) := ⟨.inl ⟨rfl, h1⟩⟩
      clear h1 hj HT HG
      go_wp2_with fail
      go_ret
      exact ⟨_, rfl, HH.out, HB.out⟩
set_option maxHeartbeats 4000000 in
set_option maxRecDepth 100000 in
theorem containsParsed_calls (l : List S39) (A : Option Addr) (c : Nat) (b : Nat) (Ak : Option Addr) (ck : Nat) (key : List Int) (u : Value) (w : World) (hl : Kd.C k39 w A l.length l) (hr1 : Kd.C (Kd.int .i32) w Ak key.length key)
    (hb : w.heap[b]? = some (.cells #[.slice Ak key.length ck, u] 39 (0, 0))) :
    Calls Try.prog 54 #[.slice A l.length c, .func (.func 55) #[] #[.pointer (some ⟨b, 0, none⟩)]] w fun e w' => e = .returned (.bool (hasKey l key)) ∧ Below w.heap.size w w' := by
  have HL := Aside0.mk hl
  have HK := Aside0.mk hr1
  have HP := Aside0.mk hb
  clear hl hr1 hb
  go_enter Try.func54, Try.ntmps54
  go_wp2_with (go_at_call 45; refine (indexParsed_calls l A c b Ak ck key u _ HL.out HK.out HP.out).mono ?_; rintro e w2 ⟨i, rfl, hi, hb⟩; have HB := Aside0.mk hb; have HI := Aside0.mk hi; clear hb hi)
  go_ret
  exact ⟨by rw [← HI.out.has]; rfl, HB.out⟩
end Go.Proofs.Ytoefjhdcipgacaa.Hy
end
