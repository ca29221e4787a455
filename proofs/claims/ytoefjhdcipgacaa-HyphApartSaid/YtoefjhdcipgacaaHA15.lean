/-
  Part 15 of what the law HyphApart rests on: contracts of the functions that it calls, and plain laws of what they compute.
-/
import Derived.Test.YtoefjhdcipgacaaHA13
import Derived.Test.YtoefjhdcipgacaaHA14
section
namespace Go.Proofs.Ytoefjhdcipgacaa.Hy
open Go.RowKit Go.Proofs.YtoefjhdcipgacaaW.PrintWords Go.Proofs.YtoefjhdcipgacaaW.PrintLast Go.Proofs.YtoefjhdcipgacaaW.PrintMore
open Go.Proofs.Ytoefjhdcipgacaa.PA
attribute [local go_sem] max2_int min2_int max_two min_two
def First (l : List S39) (key : List Int) (i : Int) : Prop := (i = -1 ∧ ∀ p ∈ l, p.f0 ≠ key) ∨ ∃ j : Nat, i = j ∧ j < l.length ∧ (rd_T39 l (j : Int)).f0 = key ∧ ∀ p ∈ l.take j, p.f0 ≠ key
def hasKey (l : List S39) (key : List Int) : Bool := l.any fun p => decide (p.f0 = key)
theorem First.has {l : List S39} {key : List Int} {i : Int} (h : First l key i) : decide (i ≥ 0) = hasKey l key := by
  rcases h with ⟨rfl, h⟩ | ⟨j, rfl, hj, hk, _⟩
  · have : hasKey l key = false := by
      rw [hasKey, List.any_eq_false]
      intro p hp
      simpa using h p hp
    rw [this]
    rfl
  · have : hasKey l key = true := by
      rw [hasKey, List.any_eq_true]
      exact ⟨rd_T39 l (j : Int), Tr.rd_T39_mem l j hj, decide_eq_true hk⟩
    rw [this]
    exact decide_eq_true (by omega)
theorem isParsed_calls (A0 : Option Addr) (c0 : Nat) (x : List Int) (v1 : Value) (A1 : Option Addr) (c1 n1 : Nat) (b : Nat) (Ak : Option Addr) (ck : Nat) (key : List Int) (u : Value) (w : World) (hv : v1 = .slice A1 n1 c1) (hr0 : Kd.C (Kd.int .i32) w A0 x.length x) (hr1 : Kd.C (Kd.int .i32) w Ak key.length key)
    (hb : w.heap[b]? = some (.cells #[.slice Ak key.length ck, u] 39 (0, 0))) :
    Calls Try.prog 55 #[.agg #[.slice A0 x.length c0, v1], .pointer (some ⟨b, 0, none⟩)] w fun e w' => e = .returned (.bool (decide (x = key))) ∧ Below w.heap.size w w' := by
  subst hv
  have H0 := Aside0.mk hr0
  have H1 := Aside0.mk hr1
  have q0 : w.cell? ⟨b, 0, none⟩ = some (.slice Ak key.length ck) := by rw [blk_cell hb 0]; rfl
  have qa : (w.alloc (.cells #[.slice A0 x.length c0, .slice A1 n1 c1] 39)).cell? ⟨b, 0, none⟩ = some (.slice Ak key.length ck) := by rw [blk_cell (blk_alloc hb _) 0]; rfl
  clear hr0 hr1 hb
  go_enter Try.func55, Try.ntmps55
  go_wp2_with (go_at_call 47; refine (equal_calls A0 c0 x Ak ck key _ (Kd.C_below H0.out (below_alloc (Below.refl _ _) _)) (Kd.C_below H1.out (below_alloc (Below.refl _ _) _))).mono ?_; rintro e w2 ⟨rfl, nd, rfl⟩)
  go_ret
  exact ⟨rfl, pw_below_drewN (below_alloc (Below.refl _ _) _) _⟩
set_option maxHeartbeats 4000000 in
set_option maxRecDepth 100000 in
theorem indexParsed_calls (l : List S39) (A : Option Addr) (c : Nat) (b : Nat) (Ak : Option Addr) (ck : Nat) (key : List Int) (u : Value) (w : World) (hl : Kd.C k39 w A l.length l) (hr1 : Kd.C (Kd.int .i32) w Ak key.length key)
    (hb : w.heap[b]? = some (.cells #[.slice Ak key.length ck, u] 39 (0, 0))) :
    Calls Try.prog 45 #[.slice A l.length c, .func (.func 55) #[] #[.pointer (some ⟨b, 0, none⟩)]] w fun e w' => ∃ i : Int, e = .returned (.int .i64 i) ∧ First l key i ∧ Below w.heap.size w w' := by
  have HL := Aside0.mk hl
  have hm : l.length ≤ 9223372036854775807 := Kd.C_max hl
  have HK := Aside0.mk hr1
  have HP := Aside0.mk hb
  clear hl hr1 hb
  go_enter Try.func45, Try.ntmps45
  go_wp2_with fail
  go_loopg [5, 8] l.length (fun g v5 v8 w' => ∃ j : Nat, v8 = .int .i64 j ∧ Aside0 (g + j = l.length) ∧ Aside0 (∀ p ∈ l.take j, p.f0 ≠ key) ∧ Aside0 (Below w.heap.size w w'))
  case atStart => exact ⟨0, rfl, ⟨rfl⟩, ⟨fun p hp => absurd hp List.not_mem_nil⟩, ⟨Below.refl _ _⟩⟩
  case round =>
    obtain ⟨j, rfl, HG, HT, HB⟩ := hrel
    by_cases hj : j < l.length
    · obtain ⟨ad, A0, c0, A1, c1, e1, hx0, hx1, _, hi0, _, _⟩ := at_T39 HL.out (j : Int) (by omega) (by omega)
      subst e1
      replace hx0 := (HB.out.cell (World.block_lt_of_cell? w _ hx0)).trans hx0
      replace hx1 := (HB.out.cell (World.block_lt_of_cell? w _ hx1)).trans hx1
      simp only [Int.toNat_natCast] at hx0 hx1
      have p1 : (0 : Int) ≤ (j : Int) := by omega
      have q1 : (j : Int) < (l.length : Int) := by omega
      obtain ⟨x, hxe⟩ : ∃ x, rd_T39 l (j : Int) = x := ⟨_, rfl⟩
      rw [hxe] at hx0 hx1 hi0
      have HX := Aside0.mk hxe
      have HI := Aside0.mk (Kd.C_below hi0 HB.out)
      have HKw := Aside0.mk (Kd.C_below HK.out HB.out)
      have HPw := Aside0.mk (blk_below HP.out HB.out)
      clear hxe hi0
      by_cases hh : x.f0 = key
      · have HD : Aside0 (decide (x.f0 = key) = true) := ⟨decide_eq_true hh⟩
        have HH : Aside0 (First l key (j : Int)) := ⟨.inr ⟨j, rfl, hj, by rw [HX.out]; exact hh, HT.out⟩⟩
        clear hh
        go_wp2_with (go_at_call 55; refine (isParsed_calls A0 c0 x.f0 _ A1 c1 x.f1.length b Ak ck key u _ rfl HI.out HKw.out HPw.out).mono ?_; rw [HD.out]; rintro e w2 ⟨rfl, hb⟩; replace HB := Aside0.mk (below_step HB.out hb); clear hb)
        go_ret
        exact ⟨_, rfl, HH.out, HB.out⟩
      · have HD : Aside0 (decide (x.f0 = key) = false) := ⟨decide_eq_false hh⟩
        have HH := Aside0.mk hh
        clear hh
        go_wp2_with (go_at_call 55; refine (isParsed_calls A0 c0 x.f0 _ A1 c1 x.f1.length b Ak ck key u _ rfl HI.out HKw.out HPw.out).mono ?_; rw [HD.out]; rintro e w2 ⟨rfl, hb⟩; replace HB := Aside0.mk (below_step HB.out hb); clear hb)
        go_roundg (l.length - (j + 1))
        case measure => have := HG.out; omega
        case rel =>
          refine ⟨j + 1, by go_num, ⟨by omega⟩, ⟨?_⟩, HB⟩
          have h2 : l[j] = x := by rw [← HX.out]; simp [rd_T39, List.getD_eq_getElem?_getD, List.getElem?_eq_getElem hj]
          intro p hp
          rw [List.take_succ_eq_append_getElem hj, h2] at hp
          rcases List.mem_append.1 hp with hp | hp
          · exact HT.out p hp
          · rw [List.mem_singleton.1 hp]; exact HH.out
    · have hje : j = l.length := by have := HG.out; omega
      subst hje
      have h1 := HT.out
      rw [List.take_length] at h1
      have HH : Aside0 (First l key (-1)) := ⟨.inl ⟨rfl, h1⟩⟩
      clear h1 hj HT HG
      go_wp2_with fail
      go_ret
      exact ⟨_, rfl, HH.out, HB.out⟩
theorem isTold_calls (A0 : Option Addr) (c0 : Nat) (x : List Int) (v1 : Value) (A1 : Option Addr) (c1 n1 : Nat) (b : Nat) (Ak : Option Addr) (ck : Nat) (key : List Int) (w : World) (hv : v1 = .slice A1 n1 c1) (hr0 : Kd.C (Kd.int .i32) w A0 x.length x) (hr1 : Kd.C (Kd.int .i32) w Ak key.length key)
    (hb : w.heap[b]? = some (.cells #[.slice Ak key.length ck] 23 (0, 0))) :
    Calls Try.prog 46 #[.agg #[.slice A0 x.length c0, v1], .pointer (some ⟨b, 0, none⟩)] w fun e w' => e = .returned (.bool (decide (x = key))) ∧ Below w.heap.size w w' := by
  subst hv
  have H0 := Aside0.mk hr0
  have H1 := Aside0.mk hr1
  have q0 : w.cell? ⟨b, 0, none⟩ = some (.slice Ak key.length ck) := by rw [blk_cell hb 0]; rfl
  have qa : (w.alloc (.cells #[.slice A0 x.length c0, .slice A1 n1 c1] 39)).cell? ⟨b, 0, none⟩ = some (.slice Ak key.length ck) := by rw [blk_cell (blk_alloc hb _) 0]; rfl
  clear hr0 hr1 hb
  go_enter Try.func46, Try.ntmps46
  go_wp2_with (go_at_call 47; refine (equal_calls A0 c0 x Ak ck key _ (Kd.C_below H0.out (below_alloc (Below.refl _ _) _)) (Kd.C_below H1.out (below_alloc (Below.refl _ _) _))).mono ?_; rintro e w2 ⟨rfl, nd, rfl⟩)
  go_ret
  exact ⟨rfl, pw_below_drewN (below_alloc (Below.refl _ _) _) _⟩
set_option maxHeartbeats 4000000 in
set_option maxRecDepth 100000 in
theorem indexTold_calls (l : List S39) (A : Option Addr) (c : Nat) (b : Nat) (Ak : Option Addr) (ck : Nat) (key : List Int) (w : World) (hl : Kd.C k39 w A l.length l) (hr1 : Kd.C (Kd.int .i32) w Ak key.length key)
    (hb : w.heap[b]? = some (.cells #[.slice Ak key.length ck] 23 (0, 0))) :
    Calls Try.prog 45 #[.slice A l.length c, .func (.func 46) #[] #[.pointer (some ⟨b, 0, none⟩)]] w fun e w' => ∃ i : Int, e = .returned (.int .i64 i) ∧ First l key i ∧ Below w.heap.size w w' := by
  have HL := Aside0.mk hl
  have hm : l.length ≤ 9223372036854775807 := Kd.C_max hl
  have HK := Aside0.mk hr1
  have HP := Aside0.mk hb
  clear hl hr1 hb
  go_enter Try.func45, Try.ntmps45
  go_wp2_with fail
  go_loopg [5, 8] l.length (fun g v5 v8 w' => ∃ j : Nat, v8 = .int .i64 j ∧ Aside0 (g + j = l.length) ∧ Aside0 (∀ p ∈ l.take j, p.f0 ≠ key) ∧ Aside0 (Below w.heap.size w w'))
  case atStart => exact ⟨0, rfl, ⟨rfl⟩, ⟨fun p hp => absurd hp List.not_mem_nil⟩, ⟨Below.refl _ _⟩⟩
  case round =>
    obtain ⟨j, rfl, HG, HT, HB⟩ := hrel
    by_cases hj : j < l.length
    · obtain ⟨ad, A0, c0, A1, c1, e1, hx0, hx1, _, hi0, _, _⟩ := at_T39 HL.out (j : Int) (by omega) (by omega)
      subst e1
      replace hx0 := (HB.out.cell (World.block_lt_of_cell? w _ hx0)).trans hx0
      replace hx1 := (HB.out.cell (World.block_lt_of_cell? w _ hx1)).trans hx1
      simp only [Int.toNat_natCast] at hx0 hx1
      have p1 : (0 : Int) ≤ (j : Int) := by omega
      have q1 : (j : Int) < (l.length : Int) := by omega
      obtain ⟨x, hxe⟩ : ∃ x, rd_T39 l (j : Int) = x := ⟨_, rfl⟩
      rw [hxe] at hx0 hx1 hi0
      have HX := Aside0.mk hxe
      have HI := Aside0.mk (Kd.C_below hi0 HB.out)
      have HKw := Aside0.mk (Kd.C_below HK.out HB.out)
      have HPw := Aside0.mk (blk_below HP.out HB.out)
      clear hxe hi0
      by_cases hh : x.f0 = key
      · have HD : Aside0 (decide (x.f0 = key) = true) := ⟨decide_eq_true hh⟩
        have HH : Aside0 (First l key (j : Int)) := ⟨.inr ⟨j, rfl, hj, by rw [HX.out]; exact hh, HT.out⟩⟩
        clear hh
        go_wp2_with (go_at_call 46; refine (isTold_calls A0 c0 x.f0 _ A1 c1 x.f1.length b Ak ck key _ rfl HI.out HKw.out HPw.out).mono ?_; rw [HD.out]; rintro e w2 ⟨rfl, hb⟩; replace HB := Aside0.mk (below_step HB.out hb); clear hb)
        go_ret
        exact ⟨_, rfl, HH.out, HB.out⟩
      · have HD : Aside0 (decide (x.f0 = key) = false) := ⟨decide_eq_false hh⟩
        have HH := Aside0.mk hh
        clear hh
        go_wp2_with (go_at_call 46; refine (isTold_calls A0 c0 x.f0 _ A1 c1 x.f1.length b Ak ck key _ rfl HI.out HKw.out HPw.out).mono ?_; rw [HD.out]; rintro e w2 ⟨rfl, hb⟩; replace HB := Aside0.mk (below_step HB.out hb); clear hb)
        go_roundg (l.length - (j + 1))
        case measure => have := HG.out; omega
        case rel =>
          refine ⟨j + 1, by go_num, ⟨by omega⟩, ⟨?_⟩, HB⟩
          have h2 : l[j] = x := by rw [← HX.out]; simp [rd_T39, List.getD_eq_getElem?_getD, List.getElem?_eq_getElem hj]
          intro p hp
          rw [List.take_succ_eq_append_getElem hj, h2] at hp
          rcases List.mem_append.1 hp with hp | hp
          · exact HT.out p hp
          · rw [List.mem_singleton.1 hp]; exact HH.out
    · have hje : j = l.length := by have := HG.out; omega
      subst hje
      have h1 := HT.out
      rw [List.take_length] at h1
      have HH : Aside0 (First l key (-1)) := ⟨.inl ⟨rfl, h1⟩⟩
      clear h1 hj HT HG
      go_wp2_with fail
      go_ret
      exact ⟨_, rfl, HH.out, HB.out⟩
set_option maxHeartbeats 4000000 in
set_option maxRecDepth 100000 in
theorem containsParsed_calls (l : List S39) (A : Option Addr) (c : Nat) (b : Nat) (Ak : Option Addr) (ck : Nat) (key : List Int) (u : Value) (w : World) (hl : Kd.C k39 w A l.length l) (hr1 : Kd.C (Kd.int .i32) w Ak key.length key)
    (hb : w.heap[b]? = some (.cells #[.slice Ak key.length ck, u] 39 (0, 0))) :
    Calls Try.prog 54 #[.slice A l.length c, .func (.func 55) #[] #[.pointer (some ⟨b, 0, none⟩)]] w fun e w' => e = .returned (.bool (hasKey l key)) ∧ Below w.heap.size w w' := by
  have HL := Aside0.mk hl
  have HK := Aside0.mk hr1
  have HP := Aside0.mk hb
  clear hl hr1 hb
  go_enter Try.func54, Try.ntmps54
  go_wp2_with (go_at_call 45; refine (indexParsed_calls l A c b Ak ck key u _ HL.out HK.out HP.out).mono ?_; rintro e w2 ⟨i, rfl, hi, hb⟩; have HB := Aside0.mk hb; have HI := Aside0.mk hi; clear hb hi)
  go_ret
  exact ⟨by rw [← HI.out.has]; rfl, HB.out⟩
end Go.Proofs.Ytoefjhdcipgacaa.Hy
end
