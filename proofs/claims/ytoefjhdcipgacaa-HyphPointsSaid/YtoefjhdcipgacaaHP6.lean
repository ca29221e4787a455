/-
 Part 6 of what the law HyphPoints rests on: contracts of the functions that it calls, and plain laws of what they compute.
-/
import Derived.Test.YtoefjhdcipgacaaProg
import Derived.Below
import Derived.Deep.Draws
import Derived.Deep.AppendLies
import Derived.Maps.AppendAt
import Derived.OwnWalk
import Derived.Laws.BytesArg
import Derived.Laws.MakeOwn
import Derived.Laws.OwnMore
import Derived.Deep.OwnRows
import Derived.Tactics
import Derived.Lib.ConvBytes
import Derived.Laws.Slices
import Derived.WalkKit
import Derived.KernelRfl
import Derived.RowKit3
import Derived.Deep.LoopGhost
import Derived.Deep.QuietTactic
import Derived.BigQuiet
import Derived.WideLaws
import Derived.Deep.DeepCutAuto
import Derived.Deep.CutBlock
import Derived.Deep.RegionHeld3
import Derived.Laws.Rows
import Derived.Lib.AppendStr
import Derived.ArgAppend
import Derived.Laws.IdiomCopy
import Derived.OrdersHeld
import Derived.Laws.BitsLemmas
import Derived.RowKit
import Derived.Test.YtoefjhdcipgacaaHP2
import Derived.Test.YtoefjhdcipgacaaHP3
import Derived.Test.YtoefjhdcipgacaaHP4
import Derived.Test.YtoefjhdcipgacaaHP5
section
namespace Go.Proofs.Ytoefjhdcipgacaa.PA
open Go.RowKit Go.Proofs.YtoefjhdcipgacaaW.PrintWords Go.Proofs.YtoefjhdcipgacaaW.PrintLast Go.Proofs.YtoefjhdcipgacaaW.PrintMore
attribute [local go_sem] max2_int min2_int max_two min_two max_three min_three max_four min_four   -- for this text's walks alone
set_option linter.unusedVariables false
set_option linter.unusedSimpArgs false
theorem info4 : (Try.prog.info? 4).map (fun i => (i.zero, i.size, i.bytes)) = some (some (.bool false), 1, 1) := by kernel_rfl
theorem info5 : (Try.prog.info? 5).map (fun i => (i.zero, i.size, i.bytes)) = some (some (.int .u8 0), 1, 1) := by kernel_rfl
theorem info21 : (Try.prog.info? 21).map (fun i => (i.zero, i.size, i.bytes)) = some (some (.int .i32 0), 1, 4) := by kernel_rfl
theorem info39 : (Try.prog.info? 39).map (fun i => (i.zero, i.size, i.bytes)) = some (some (.agg #[(.slice none 0 0), (.slice none 0 0)]), 2, 48) := by kernel_rfl
theorem info63 : (Try.prog.info? 63).map (fun i => (i.zero, i.size, i.bytes)) = some (some (.agg #[(.int .i32 0), (.int .i32 0), (.int .i64 0)]), 3, 16) := by kernel_rfl
theorem info66 : (Try.prog.info? 66).map (fun i => (i.zero, i.size, i.bytes)) = some (some (.agg #[(.int .i32 0), (.int .i64 0), (.int .i64 0)]), 3, 24) := by kernel_rfl
structure S39 where
 f0 : (List Int)
 f1 : (List Int)
def z39 : S39 := ⟨([] : List Int), ([] : List Int)⟩
def k39 : Kd S39 := Kd.iso (Kd.pair (Kd.slice 21 (Kd.int .i32)) (Kd.slice 5 (Kd.int .u8))) (fun x : S39 => (x.f0, x.f1))
theorem k39_heap : Kd.Heap k39 := Kd.heap_iso _ (Kd.heap_pair (Kd.heap_slice 21 (Kd.heap_int .i32)) (Kd.heap_slice 5 (Kd.heap_int .u8)))
theorem k39_open {w : World} {x : S39} {cs : List Value} (h : k39.K w x cs) : ∃ A0 c0 A1 c1, cs = [.slice A0 x.f0.length c0, .slice A1 x.f1.length c1] ∧ x.f0.length ≤ c0 ∧ (Kd.int .i32).C w A0 x.f0.length x.f0 ∧ x.f1.length ≤ c1 ∧ (Kd.int .u8).C w A1 x.f1.length x.f1 := by
 obtain ⟨_, _, rfl, ⟨A0, c0, rfl, l0, g0⟩, ⟨A1, c1, rfl, l1, g1⟩⟩ := h
 exact ⟨A0, c0, A1, c1, rfl, l0, g0, l1, g1⟩
theorem k39_openM {w : World} {base : Nat} {ok : Nat → Prop} {x : S39} {cs : List Value} (h : k39.M w base ok x cs) : ∃ v0 v1, cs = [v0, v1] ∧ (Kd.int .i32).R 21 w base ok v0 x.f0 ∧ (Kd.int .u8).R 5 w base ok v1 x.f1 := by
 obtain ⟨_, _, rfl, ⟨v0, rfl, g0⟩, ⟨v1, rfl, g1⟩⟩ := h
 exact ⟨v0, v1, rfl, g0, g1⟩
theorem k39_mkM (w : World) (base : Nat) (ok : Nat → Prop) (x : S39) {v0 : Value} (g0 : (Kd.int .i32).R 21 w base ok v0 x.f0) {v1 : Value} (g1 : (Kd.int .u8).R 5 w base ok v1 x.f1) : k39.M w base ok x [v0, v1] := ⟨[v0], [v1], rfl, ⟨v0, rfl, g0⟩, ⟨v1, rfl, g1⟩⟩
def rd_T39 (xs : List S39) (i : Int) : S39 := xs.getD i.toNat z39
theorem at_T39 {w : World} {A : Option Addr} {n : Nat} {xs : List S39} (h : Kd.C k39 w A n xs) (i : Int) (h0 : 0 ≤ i) (h1 : i < n) : ∃ ad A0 c0 A1 c1, A = some ad ∧ w.cell? (ad.add (i.toNat * 2)) = some (.slice A0 (rd_T39 xs i).f0.length c0) ∧ w.cell? ⟨(ad.add (i.toNat * 2)).block, (ad.add (i.toNat * 2)).off + 1, none⟩ = some (.slice A1 (rd_T39 xs i).f1.length c1) ∧ (rd_T39 xs i).f0.length ≤ c0 ∧ (Kd.int .i32).C w A0 (rd_T39 xs i).f0.length (rd_T39 xs i).f0 ∧ (rd_T39 xs i).f1.length ≤ c1 ∧ (Kd.int .u8).C w A1 (rd_T39 xs i).f1.length (rd_T39 xs i).f1 := by
 obtain ⟨ad, c, e, _, hK, hc0⟩ := Kd.C_get h z39 i h0 h1
 have hc : ∀ j u, c[j]? = some u → w.cell? (ad.add (i.toNat * 2 + j)) = some u := hc0
 obtain ⟨A0, c0, A1, c1, rfl, l0, g0, l1, g1⟩ := k39_open hK
 exact ⟨ad, A0, c0, A1, c1, e, hc 0 _ rfl, by rw [← add_field _ _ 1 (by omega)]; exact hc 1 _ rfl, l0, g0, l1, g1⟩
structure S63 where
 f0 : Int
 f1 : Int
 f2 : Int
def z63 : S63 := ⟨(0 : Int), (0 : Int), (0 : Int)⟩
def k63 : Kd S63 := Kd.iso (Kd.pair (Kd.int .i32) (Kd.pair (Kd.int .i32) (Kd.int .i64))) (fun x : S63 => (x.f0, x.f1, x.f2))
theorem k63_open {w : World} {x : S63} {cs : List Value} (h : k63.K w x cs) : cs = [.int .i32 x.f0, .int .i32 x.f1, .int .i64 x.f2] := by
 obtain ⟨_, _, rfl, rfl, ⟨_, _, rfl, rfl, rfl⟩⟩ := h
 exact rfl
theorem k63_mkM (w : World) (base : Nat) (ok : Nat → Prop) (x : S63)  : k63.M w base ok x [.int .i32 x.f0, .int .i32 x.f1, .int .i64 x.f2] := ⟨[.int .i32 x.f0], [.int .i32 x.f1, .int .i64 x.f2], rfl, rfl, ⟨[.int .i32 x.f1], [.int .i64 x.f2], rfl, rfl, rfl⟩⟩
def rd_T63 (xs : List S63) (i : Int) : S63 := xs.getD i.toNat z63
theorem at_T63 {w : World} {A : Option Addr} {n : Nat} {xs : List S63} (h : Kd.C k63 w A n xs) (i : Int) (h0 : 0 ≤ i) (h1 : i < n) : ∃ ad , A = some ad ∧ w.cell? (ad.add (i.toNat * 3)) = some (.int .i32 (rd_T63 xs i).f0) ∧ w.cell? ⟨(ad.add (i.toNat * 3)).block, (ad.add (i.toNat * 3)).off + 1, none⟩ = some (.int .i32 (rd_T63 xs i).f1) ∧ w.cell? ⟨(ad.add (i.toNat * 3)).block, (ad.add (i.toNat * 3)).off + 2, none⟩ = some (.int .i64 (rd_T63 xs i).f2) := by
 obtain ⟨ad, c, e, _, hK, hc0⟩ := Kd.C_get h z63 i h0 h1
 have hc : ∀ j u, c[j]? = some u → w.cell? (ad.add (i.toNat * 3 + j)) = some u := hc0
 obtain rfl := k63_open hK
 exact ⟨ad, e, hc 0 _ rfl, by rw [← add_field _ _ 1 (by omega)]; exact hc 1 _ rfl, by rw [← add_field _ _ 2 (by omega)]; exact hc 2 _ rfl⟩
structure S66 where
 f0 : Int
 f1 : Int
 f2 : Int
def z66 : S66 := ⟨(0 : Int), (0 : Int), (0 : Int)⟩
def k66 : Kd S66 := Kd.iso (Kd.pair (Kd.int .i32) (Kd.pair (Kd.int .i64) (Kd.int .i64))) (fun x : S66 => (x.f0, x.f1, x.f2))
theorem k66_open {w : World} {x : S66} {cs : List Value} (h : k66.K w x cs) : cs = [.int .i32 x.f0, .int .i64 x.f1, .int .i64 x.f2] := by
 obtain ⟨_, _, rfl, rfl, ⟨_, _, rfl, rfl, rfl⟩⟩ := h
 exact rfl
theorem k66_mkM (w : World) (base : Nat) (ok : Nat → Prop) (x : S66)  : k66.M w base ok x [.int .i32 x.f0, .int .i64 x.f1, .int .i64 x.f2] := ⟨[.int .i32 x.f0], [.int .i64 x.f1, .int .i64 x.f2], rfl, rfl, ⟨[.int .i64 x.f1], [.int .i64 x.f2], rfl, rfl, rfl⟩⟩
def rd_T66 (xs : List S66) (i : Int) : S66 := xs.getD i.toNat z66
theorem at_T66 {w : World} {A : Option Addr} {n : Nat} {xs : List S66} (h : Kd.C k66 w A n xs) (i : Int) (h0 : 0 ≤ i) (h1 : i < n) : ∃ ad , A = some ad ∧ w.cell? (ad.add (i.toNat * 3)) = some (.int .i32 (rd_T66 xs i).f0) ∧ w.cell? ⟨(ad.add (i.toNat * 3)).block, (ad.add (i.toNat * 3)).off + 1, none⟩ = some (.int .i64 (rd_T66 xs i).f1) ∧ w.cell? ⟨(ad.add (i.toNat * 3)).block, (ad.add (i.toNat * 3)).off + 2, none⟩ = some (.int .i64 (rd_T66 xs i).f2) := by
 obtain ⟨ad, c, e, _, hK, hc0⟩ := Kd.C_get h z66 i h0 h1
 have hc : ∀ j u, c[j]? = some u → w.cell? (ad.add (i.toNat * 3 + j)) = some u := hc0
 obtain rfl := k66_open hK
 exact ⟨ad, e, hc 0 _ rfl, by rw [← add_field _ _ 1 (by omega)]; exact hc 1 _ rfl, by rw [← add_field _ _ 2 (by omega)]; exact hc 2 _ rfl⟩
end Go.Proofs.Ytoefjhdcipgacaa.PA
end
section
namespace Go.Proofs.Ytoefjhdcipgacaa.PA
open Go.RowKit Go.Proofs.YtoefjhdcipgacaaW.PrintWords Go.Proofs.YtoefjhdcipgacaaW.PrintLast Go.Proofs.YtoefjhdcipgacaaW.PrintMore
attribute [local go_sem] max2_int min2_int max_two min_two max_three min_three max_four min_four   -- for this text's walks alone
set_option linter.unusedVariables false
set_option linter.unusedSimpArgs false
mutual
def stanzaref01_length.j0 : Nat → Int → Bool → Option (Int)
 | 0, _, _ => none
 | k + 1, x0, x6 => if x6 = true then (some 2) else (if x0 ≥ 224 then (stanzaref01_length.j1 k x0 (decide (x0 ≤ 239))) else (stanzaref01_length.j1 k x0 false))
def stanzaref01_length.j1 : Nat → Int → Bool → Option (Int)
 | 0, _, _ => none
 | k + 1, x0, b5 => if b5 = true then (some 3) else (if x0 ≥ 240 then (if x0 ≤ 244 then (some 4) else (some 0)) else (some 0))
end
def stanzaref01_length.f (k : Nat) (a0 : Int) : Option (Int) := if a0 < 128 then (some 1) else (if a0 ≥ 194 then (stanzaref01_length.j0 k a0 (decide (a0 ≤ 223))) else (stanzaref01_length.j0 k a0 false))
set_option maxHeartbeats 8000000 in
set_option maxRecDepth 100000 in
theorem stanzaref01_length.calls (k : Nat) (a0 : Int) (r : Int) (w : World) (h : stanzaref01_length.f k a0 = some r) :
  Calls Try.prog 59 #[.int .u8 a0] w fun e w' => e = .returned (.int .i64 r) ∧ Drawn0 w w' := by
 have H : (if a0 < 128 then (some 1) else (if a0 ≥ 194 then (stanzaref01_length.j0 k a0 (decide (a0 ≤ 223))) else (stanzaref01_length.j0 k a0 false))) = some r := h
 clear h
 by_cases c2 : a0 < 128
 ·rw [if_pos c2] at H
  have a8 : decide (a0 < 128) = true := decide_eq_true c2
  clear c2
  obtain rfl := Option.some.inj H
  go_enter Try.func59, Try.ntmps59
  go_wp2
  go_ret
  exact ⟨by first | rfl | (simp; done) | (simp [*]; done), by repeat (first | exact Drawn0.refl _ | apply Drawn0.step)⟩
 ·rw [if_neg c2] at H
  have a8 : decide (a0 < 128) = false := decide_eq_false c2
  clear c2
  have a9 := Aside0.mk H
  clear H
  go_enter Try.func59, Try.ntmps59
  go_upto_region 3 with (fail)
  go_cut [6] (fun v6 wc => ∃ (kq : Nat) (a7 : Bool), v6 = .bool a7 ∧ Aside0 (stanzaref01_length.j0 kq a0 a7 = some r) ∧ Aside0 (kq ≤ k) ∧ Drawn0 w wc)
  case first =>
   have H := a9.out
   clear a9
   by_cases c4 : a0 ≥ 194
   ·rw [if_pos c4] at H
    have a1 : decide (194 ≤ a0) = true := decide_eq_true c4
    clear c4
    (first | rw [a1] | (simp only [i64_w, i32_w]; rw [a1]) | skip)
    have H' := Aside0.mk H
    clear H
    go_wp2
    go_meet
    case rel => exact ⟨_, (decide (a0 ≤ 223)), (by first | rfl | (simp; done) | (simp [*]; done)), H', ⟨by first | omega | exact Nat.le_refl _⟩, by repeat (first | exact Drawn0.refl _ | apply Drawn0.step)⟩
   ·rw [if_neg c4] at H
    have a1 : decide (194 ≤ a0) = false := decide_eq_false c4
    clear c4
    (first | rw [a1] | (simp only [i64_w, i32_w]; rw [a1]) | skip)
    have H' := Aside0.mk H
    clear H
    go_wp2
    go_meet
    case rel => exact ⟨_, (false), (by first | rfl | (simp; done) | (simp [*]; done)), H', ⟨by first | omega | exact Nat.le_refl _⟩, by repeat (first | exact Drawn0.refl _ | apply Drawn0.step)⟩
  case rest =>
   clear a9
   try clear c2
   try clear a8
   try clear p2
   try clear c4
   try clear a1
   obtain ⟨kq, a7, rfl, HA, b3, ⟨b7, rfl⟩⟩ := hcut
   cases kq with
   | zero => exact absurd HA.out (by simp [stanzaref01_length.j0])
   | succ b0 =>
    have H := HA.out
    clear HA
    simp only [stanzaref01_length.j0] at H
    by_cases c5 : a7 = true
    ·subst c5
     have H1 : (some 2) = some r := by rw [if_pos rfl] at H; exact H
     clear H
     have H := H1
     clear H1
     obtain rfl := Option.some.inj H
     go_wp2
     go_ret
     exact ⟨by first | rfl | (simp; done) | (simp [*]; done), by repeat (first | exact Drawn0.refl _ | apply Drawn0.step)⟩
    ·replace c5 := Bool.eq_false_iff.mpr c5
     subst c5
     have H1 : (if a0 ≥ 224 then (stanzaref01_length.j1 b0 a0 (decide (a0 ≤ 239))) else (stanzaref01_length.j1 b0 a0 false)) = some r := by rw [if_neg (show ¬ (false = true) by decide)] at H; exact H
     clear H
     have H := H1
     clear H1
     have b1 := Aside0.mk H
     clear H
     go_upto_region 5 with (fail)
     go_cut [13] (fun b6 wc => ∃ (kq : Nat) (a3 : Bool), b6 = .bool a3 ∧ Aside0 (stanzaref01_length.j1 kq a0 a3 = some r) ∧ Aside0 (kq ≤ b0) ∧ Drawn0 w wc)
     case first =>
      have H := b1.out
      clear b1
      by_cases c7 : a0 ≥ 224
      ·rw [if_pos c7] at H
       have a2 : decide (224 ≤ a0) = true := decide_eq_true c7
       clear c7
       (first | rw [a2] | (simp only [i64_w, i32_w]; rw [a2]) | skip)
       have H' := Aside0.mk H
       clear H
       go_wp2
       go_meet
       case rel => exact ⟨_, (decide (a0 ≤ 239)), (by first | rfl | (simp; done) | (simp [*]; done)), H', ⟨by have := b3.out; first | omega | exact Nat.le_refl _⟩, by repeat (first | exact Drawn0.refl _ | apply Drawn0.step)⟩
      ·rw [if_neg c7] at H
       have a2 : decide (224 ≤ a0) = false := decide_eq_false c7
       clear c7
       (first | rw [a2] | (simp only [i64_w, i32_w]; rw [a2]) | skip)
       have H' := Aside0.mk H
       clear H
       go_wp2
       go_meet
       case rel => exact ⟨_, (false), (by first | rfl | (simp; done) | (simp [*]; done)), H', ⟨by have := b3.out; first | omega | exact Nat.le_refl _⟩, by repeat (first | exact Drawn0.refl _ | apply Drawn0.step)⟩
     case rest =>
      clear b1
      try clear c2
      try clear a8
      try clear p2
      try clear c4
      try clear a1
      try clear c5
      try clear c7
      try clear a2
      try clear p2
      obtain ⟨kq, a3, rfl, HA, b8, ⟨b9, rfl⟩⟩ := hcut
      cases kq with
      | zero => exact absurd HA.out (by simp [stanzaref01_length.j1])
      | succ c0 =>
       have H := HA.out
       clear HA
       simp only [stanzaref01_length.j1] at H
       by_cases c8 : a3 = true
       ·subst c8
        have H1 : (some 3) = some r := by rw [if_pos rfl] at H; exact H
        clear H
        have H := H1
        clear H1
        obtain rfl := Option.some.inj H
        go_wp2
        go_ret
        exact ⟨by first | rfl | (simp; done) | (simp [*]; done), by repeat (first | exact Drawn0.refl _ | apply Drawn0.step)⟩
       ·replace c8 := Bool.eq_false_iff.mpr c8
        subst c8
        have H1 : (if a0 ≥ 240 then (if a0 ≤ 244 then (some 4) else (some 0)) else (some 0)) = some r := by rw [if_neg (show ¬ (false = true) by decide)] at H; exact H
        clear H
        have H := H1
        clear H1
        by_cases c9 : a0 ≥ 240
        ·rw [if_pos c9] at H
         have b4 : decide (240 ≤ a0) = true := decide_eq_true c9
         clear c9
         by_cases a6 : a0 ≤ 244
         ·rw [if_pos a6] at H
          have b2 : decide (a0 ≤ 244) = true := decide_eq_true a6
          clear a6
          obtain rfl := Option.some.inj H
          go_wp2
          go_ret
          exact ⟨by first | rfl | (simp; done) | (simp [*]; done), by repeat (first | exact Drawn0.refl _ | apply Drawn0.step)⟩
         ·rw [if_neg a6] at H
          have b2 : decide (a0 ≤ 244) = false := decide_eq_false a6
          clear a6
          obtain rfl := Option.some.inj H
          go_wp2
          go_ret
          exact ⟨by first | rfl | (simp; done) | (simp [*]; done), by repeat (first | exact Drawn0.refl _ | apply Drawn0.step)⟩
        ·rw [if_neg c9] at H
         have b4 : decide (240 ≤ a0) = false := decide_eq_false c9
         clear c9
         obtain rfl := Option.some.inj H
         go_wp2
         go_ret
         exact ⟨by first | rfl | (simp; done) | (simp [*]; done), by repeat (first | exact Drawn0.refl _ | apply Drawn0.step)⟩
end Go.Proofs.Ytoefjhdcipgacaa.PA
end
section
namespace Go.Proofs.Ytoefjhdcipgacaa.PA
open Go.RowKit Go.Proofs.YtoefjhdcipgacaaW.PrintWords Go.Proofs.YtoefjhdcipgacaaW.PrintLast Go.Proofs.YtoefjhdcipgacaaW.PrintMore
attribute [local go_sem] max2_int min2_int max_two min_two max_three min_three max_four min_four   -- for this text's walks alone
set_option linter.unusedVariables false
set_option linter.unusedSimpArgs false
mutual
def stanzaref01_Begins.j0 : Nat → List Int → Bool → Option (Bool)
 | 0, _, _ => none
 | k + 1, x0, j3 => if j3 = true then (some false) else (stanzaref01_Begins.l0 k x0 1)
def stanzaref01_Begins.l0 : Nat → List Int → Int → Option (Bool)
 | 0, _, _ => none
 | k + 1, x0, x3 => if x3 < (x0.length : Int) then (if 0 ≤ x3 then (if (rd x0 x3) < 128 then (some false) else (if (rd x0 x3) > 191 then (some false) else (stanzaref01_Begins.l0 k x0 (wrap64 (x3 + 1))))) else (none)) else (if (x0.length : Int) = 1 then (some true) else (if 0 < (x0.length : Int) then (if (rd x0 0) = 224 then (if 1 < (x0.length : Int) then (some (decide ((rd x0 1) ≥ 160))) else (none)) else (if (rd x0 0) = 237 then (if 1 < (x0.length : Int) then (some (decide ((rd x0 1) < 160))) else (none)) else (if (rd x0 0) = 240 then (if 1 < (x0.length : Int) then (some (decide ((rd x0 1) ≥ 144))) else (none)) else (if (rd x0 0) = 244 then (if 1 < (x0.length : Int) then (some (decide ((rd x0 1) < 144))) else (none)) else (some true))))) else (none)))
end
def stanzaref01_Begins.f (k : Nat) (l0 : List Int) : Option (Bool) := if (l0.length : Int) = 0 then (stanzaref01_Begins.j0 k l0 true) else (if 0 < (l0.length : Int) then ((stanzaref01_length.f k (rd l0 0)).bind fun b1 => (stanzaref01_Begins.j0 k l0 (decide ((l0.length : Int) > b1)))) else (none))
set_option maxHeartbeats 8000000 in
set_option maxRecDepth 100000 in
theorem stanzaref01_Begins.calls (k : Nat) (A0 : Option Addr) (c0 : Nat) (l0 : List Int) (r : Bool) (w : World) (i0 : Kd.C (Kd.int .u8) w A0 l0.length l0) (i1 : l0.length ≤ c0) (h : stanzaref01_Begins.f k l0 = some r) :
  Calls Try.prog 58 #[.slice A0 l0.length c0] w fun e w' => e = .returned (.bool r) ∧ Drawn0 w w' := by
 have a5 := Aside0.mk i0
 have l6 := Aside0.mk i1
 clear i0 i1
 have H : (if (l0.length : Int) = 0 then (stanzaref01_Begins.j0 k l0 true) else (if 0 < (l0.length : Int) then ((stanzaref01_length.f k (rd l0 0)).bind fun b1 => (stanzaref01_Begins.j0 k l0 (decide ((l0.length : Int) > b1)))) else (none))) = some r := h
 clear h
 have g0 := Aside0.mk H
 clear H
 go_enter Try.func58, Try.ntmps58
 go_upto_region 1 with (fail)
 go_cut [15] (fun j4 wc => ∃ (kq : Nat) (b5 : Bool), j4 = .bool b5 ∧ Aside0 (stanzaref01_Begins.j0 kq l0 b5 = some r) ∧ Aside0 (kq ≤ k) ∧ Drawn0 w wc)
 case first =>
  have H := g0.out
  clear g0
  by_cases c3 : (l0.length : Int) = 0
  ·rw [if_pos c3] at H
   have b2 : ((l0.length : Int) == 0) = true := beq_iff_eq.mpr c3
   have e4 : ((l0.length : Int) != 0) = false := bne_eq_false_iff_eq.mpr c3
   clear c3
   (first | rw [b2] | (simp only [i64_w, i32_w]; rw [b2]) | skip)
   have H' := Aside0.mk H
   clear H
   go_wp2
   go_meet
   case rel => exact ⟨_, (true), (by first | rfl | (simp; done) | (simp [*]; done)), H', ⟨by first | omega | exact Nat.le_refl _⟩, by repeat (first | exact Drawn0.refl _ | apply Drawn0.step)⟩
  ·rw [if_neg c3] at H
   have b2 : ((l0.length : Int) == 0) = false := beq_eq_false_iff_ne.mpr c3
   have e4 : ((l0.length : Int) != 0) = true := bne_iff_ne.mpr c3
   have g1 : ¬ (l0 = []) := fun h_ => c3 (by rw [h_]; rfl)
   (first | rw [b2] | (simp only [i64_w, i32_w]; rw [b2]) | skip)
   by_cases c4 : 0 < (l0.length : Int)
   ·rw [if_pos c4] at H
    have g2 : decide (0 < (l0.length : Int)) = true := decide_eq_true c4
    have g3 : decide (0 < l0.length) = true := decide_eq_true (by omega)
    clear c4
    replace H := Option.bind_eq_some_iff.mp H
    obtain ⟨b1, i2, H⟩ := H
    replace H : (stanzaref01_Begins.j0 k l0 (decide ((l0.length : Int) > b1))) = some r := H
    have A5 := Aside0.mk i2
    clear i2
    have H' := Aside0.mk H
    clear H
    have c2 : 0 ≤ (0 : Int) := (by omega)
    have d0 : 0 < (l0.length : Int) := of_decide_eq_true (by first | (with_reducible assumption) | assumption)
    obtain ⟨j7, i5, b0⟩ := Kd.at_int a5.out 0 c2 d0
    cases i5
    have j8 : (0 < l0.length) = True := eq_true (by omega)
    (try rw [show ((0 : Int)).toNat = 0 from rfl] at b0)
    (try rw [Addr.add_zero'] at b0)
    replace c2 := eq_true c2
    replace d0 := eq_true d0
    go_wp2_with (first | (go_at_call 59; (with_reducible refine (stanzaref01_length.calls k (rd l0 0) b1 _ A5.out).mono ?_); rintro e w' ⟨rfl, ⟨nd, rfl⟩⟩))
    go_meet
    case rel => exact ⟨_, (decide ((l0.length : Int) > b1)), (by first | rfl | (simp; done) | (simp [*]; done)), H', ⟨by first | omega | exact Nat.le_refl _⟩, by repeat (first | exact Drawn0.refl _ | apply Drawn0.step)⟩
   ·rw [if_neg c4] at H
    exact absurd H (by simp)
 case rest =>
  clear g0
  try clear p2
  try clear q2
  try clear j5
  try clear j6
  try clear c3
  try clear b2
  try clear e4
  try clear g1
  try clear c4
  try clear g2
  try clear g3
  try clear c5
  try clear b0
  try clear c2
  try clear d0
  obtain ⟨kq, b5, rfl, HA, i3, ⟨l7, rfl⟩⟩ := hcut
  cases kq with
  | zero => exact absurd HA.out (by simp [stanzaref01_Begins.j0])
  | succ g4 =>
   have H := HA.out
   clear HA
   simp only [stanzaref01_Begins.j0] at H
   by_cases c6 : b5 = true
   ·subst c6
    have H1 : (some false) = some r := by rw [if_pos rfl] at H; exact H
    clear H
    have H := H1
    clear H1
    obtain rfl := Option.some.inj H
    go_wp2
    go_ret
    exact ⟨by first | rfl | (simp; done) | (simp [*]; done), by repeat (first | exact Drawn0.refl _ | apply Drawn0.step)⟩
   ·replace c6 := Bool.eq_false_iff.mpr c6
    subst c6
    have H1 : (stanzaref01_Begins.l0 g4 l0 1) = some r := by rw [if_neg (show ¬ (false = true) by decide)] at H; exact H
    clear H
    have H := H1
    clear H1
    have H' := Aside0.mk H
    clear H
    go_wp2
    go_loopg [3] g4 (fun kq v3 w' => ∃ (a1 : Int), v3 = .int .i64 a1 ∧ Aside0 (stanzaref01_Begins.l0 kq l0 a1 = some r) ∧ Aside0 (kq ≤ g4) ∧ Drawn0 w w')
    case atStart => exact ⟨(1), (by first | rfl | (simp; done) | (simp [*]; done)), H', ⟨Nat.le_refl _⟩, by repeat (first | exact Drawn0.refl _ | apply Drawn0.step)⟩
    case round =>
     clear H'
     try clear c1
     try clear p2
     try clear q2
     try clear j5
     try clear j6
     try clear c3
     try clear b2
     try clear e4
     try clear g1
     try clear c4
     try clear g2
     try clear g3
     try clear c5
     try clear c6
     try clear b0
     try clear p2
     try clear c2
     try clear q2
     try clear d0
     obtain ⟨a1, rfl, HA, i4, ⟨m2, rfl⟩⟩ := hrel
     cases gk with
     | zero => exact absurd HA.out (by simp [stanzaref01_Begins.l0])
     | succ k2 =>
      have H := HA.out
      clear HA
      simp only [stanzaref01_Begins.l0] at H
      by_cases c7 : a1 < (l0.length : Int)
      ·rw [if_pos c7] at H
       have i6 : decide (a1 < (l0.length : Int)) = true := decide_eq_true c7
       clear c7
       by_cases c8 : 0 ≤ a1
       ·rw [if_pos c8] at H
        have l5 : decide (0 ≤ a1) = true := decide_eq_true c8
        clear c8
        by_cases c9 : (rd l0 a1) < 128
        ·rw [if_pos c9] at H
         have i7 : decide ((rd l0 a1) < 128) = true := decide_eq_true c9
         clear c9
         obtain rfl := Option.some.inj H
         have a6 : 0 ≤ (a1 : Int) := of_decide_eq_true (by first | (with_reducible assumption) | assumption)
         have a7 : a1 < (l0.length : Int) := of_decide_eq_true (by first | (with_reducible assumption) | assumption)
         obtain ⟨b6, d1, d7⟩ := Kd.at_int a5.out a1 a6 a7
         cases d1
         replace a6 := eq_true a6
         replace a7 := eq_true a7
         go_wp2
         go_ret
         exact ⟨by first | rfl | (simp; done) | (simp [*]; done), by repeat (first | exact Drawn0.refl _ | apply Drawn0.step)⟩
        ·rw [if_neg c9] at H
         have i7 : decide ((rd l0 a1) < 128) = false := decide_eq_false c9
         clear c9
         by_cases d8 : (rd l0 a1) > 191
         ·rw [if_pos d8] at H
          have g5 : decide (191 < (rd l0 a1)) = true := decide_eq_true d8
          clear d8
          obtain rfl := Option.some.inj H
          have a6 : 0 ≤ (a1 : Int) := of_decide_eq_true (by first | (with_reducible assumption) | assumption)
          have a7 : a1 < (l0.length : Int) := of_decide_eq_true (by first | (with_reducible assumption) | assumption)
          obtain ⟨b6, d1, d7⟩ := Kd.at_int a5.out a1 a6 a7
          cases d1
          replace a6 := eq_true a6
          replace a7 := eq_true a7
          have b3 : 0 ≤ (a1 : Int) := of_decide_eq_true (by first | (with_reducible assumption) | assumption)
          have b4 : a1 < (l0.length : Int) := of_decide_eq_true (by first | (with_reducible assumption) | assumption)
          obtain ⟨e3, e5, f9⟩ := Kd.at_int a5.out a1 b3 b4
          obtain rfl : b6 = e3 := (by injection e5)
          replace b3 := eq_true b3
          replace b4 := eq_true b4
          go_wp2
          go_ret
          exact ⟨by first | rfl | (simp; done) | (simp [*]; done), by repeat (first | exact Drawn0.refl _ | apply Drawn0.step)⟩
         ·rw [if_neg d8] at H
          have g5 : decide (191 < (rd l0 a1)) = false := decide_eq_false d8
          clear d8
          have H' := Aside0.mk H
          clear H
          have a6 : 0 ≤ (a1 : Int) := of_decide_eq_true (by first | (with_reducible assumption) | assumption)
          have a7 : a1 < (l0.length : Int) := of_decide_eq_true (by first | (with_reducible assumption) | assumption)
          obtain ⟨b6, d1, d7⟩ := Kd.at_int a5.out a1 a6 a7
          cases d1
          replace a6 := eq_true a6
          replace a7 := eq_true a7
          have b3 : 0 ≤ (a1 : Int) := of_decide_eq_true (by first | (with_reducible assumption) | assumption)
          have b4 : a1 < (l0.length : Int) := of_decide_eq_true (by first | (with_reducible assumption) | assumption)
          obtain ⟨e3, e5, f9⟩ := Kd.at_int a5.out a1 b3 b4
          obtain rfl : b6 = e3 := (by injection e5)
          replace b3 := eq_true b3
          replace b4 := eq_true b4
          go_wp2
          go_roundg k2
          case measure => have := i3.out; have := i4.out; omega
          case rel => exact ⟨(wrap64 (a1 + 1)), (by first | rfl | (simp; done) | (simp [*]; done)), H', ⟨by have := i3.out; have := i4.out; omega⟩, by repeat (first | exact Drawn0.refl _ | apply Drawn0.step)⟩
       ·rw [if_neg c8] at H
        exact absurd H (by simp)
      ·rw [if_neg c7] at H
       have i6 : decide (a1 < (l0.length : Int)) = false := decide_eq_false c7
       clear c7
       by_cases d2 : (l0.length : Int) = 1
       ·rw [if_pos d2] at H
        have g6 : ((l0.length : Int) == 1) = true := beq_iff_eq.mpr d2
        have g7 : ((l0.length : Int) != 1) = false := bne_eq_false_iff_eq.mpr d2
        clear d2
        obtain rfl := Option.some.inj H
        go_wp2
        go_ret
        exact ⟨by first | rfl | (simp; done) | (simp [*]; done), by repeat (first | exact Drawn0.refl _ | apply Drawn0.step)⟩
       ·rw [if_neg d2] at H
        have g6 : ((l0.length : Int) == 1) = false := beq_eq_false_iff_ne.mpr d2
        have g7 : ((l0.length : Int) != 1) = true := bne_iff_ne.mpr d2
        by_cases f4 : 0 < (l0.length : Int)
        ·rw [if_pos f4] at H
         have j9 : decide (0 < (l0.length : Int)) = true := decide_eq_true f4
         have k0 : decide (0 < l0.length) = true := decide_eq_true (by omega)
         clear f4
         by_cases d3 : (rd l0 0) = 224
         ·rw [if_pos d3] at H
          have g8 : ((rd l0 0) == 224) = true := beq_iff_eq.mpr d3
          have g9 : ((rd l0 0) != 224) = false := bne_eq_false_iff_eq.mpr d3
          clear d3
          by_cases f5 : 1 < (l0.length : Int)
          ·rw [if_pos f5] at H
           have k1 : decide (1 < (l0.length : Int)) = true := decide_eq_true f5
           have k3 : decide (1 < l0.length) = true := decide_eq_true (by omega)
           clear f5
           obtain rfl := Option.some.inj H
           have a3 : 0 ≤ (0 : Int) := (by omega)
           have a4 : 0 < (l0.length : Int) := of_decide_eq_true (by first | (with_reducible assumption) | assumption)
           obtain ⟨a8, a9, a2⟩ := Kd.at_int a5.out 0 a3 a4
           cases a9
           have b7 : (0 < l0.length) = True := eq_true (by omega)
           (try rw [show ((0 : Int)).toNat = 0 from rfl] at a2)
           (try rw [Addr.add_zero'] at a2)
           replace a3 := eq_true a3
           replace a4 := eq_true a4
           have e6 : 0 ≤ (1 : Int) := (by omega)
           have e7 : 1 < (l0.length : Int) := of_decide_eq_true (by first | (with_reducible assumption) | assumption)
           obtain ⟨h0, i8, d9⟩ := Kd.at_int a5.out 1 e6 e7
           obtain rfl : a8 = h0 := (by injection i8)
           (try simp only [show (1 : Int).toNat = 1 from rfl, Nat.reduceMul, Nat.reduceEqDiff, Go.Addr.add, ↓reduceIte] at d9)
           have k4 : (1 < l0.length) = True := eq_true (by omega)
           (try rw [show ((1 : Int)).toNat = 1 from rfl] at d9)
           replace e6 := eq_true e6
           replace e7 := eq_true e7
           go_wp2
           go_ret
           exact ⟨by first | rfl | (simp; done) | (simp [*]; done), by repeat (first | exact Drawn0.refl _ | apply Drawn0.step)⟩
          ·rw [if_neg f5] at H
           exact absurd H (by simp)
         ·rw [if_neg d3] at H
          have g8 : ((rd l0 0) == 224) = false := beq_eq_false_iff_ne.mpr d3
          have g9 : ((rd l0 0) != 224) = true := bne_iff_ne.mpr d3
          by_cases d4 : (rd l0 0) = 237
          ·rw [if_pos d4] at H
           have h1 : ((rd l0 0) == 237) = true := beq_iff_eq.mpr d4
           have h2 : ((rd l0 0) != 237) = false := bne_eq_false_iff_eq.mpr d4
           clear d4
           by_cases f6 : 1 < (l0.length : Int)
           ·rw [if_pos f6] at H
            have k5 : decide (1 < (l0.length : Int)) = true := decide_eq_true f6
            have k6 : decide (1 < l0.length) = true := decide_eq_true (by omega)
            clear f6
            obtain rfl := Option.some.inj H
            have a3 : 0 ≤ (0 : Int) := (by omega)
            have a4 : 0 < (l0.length : Int) := of_decide_eq_true (by first | (with_reducible assumption) | assumption)
            obtain ⟨a8, a9, a2⟩ := Kd.at_int a5.out 0 a3 a4
            cases a9
            have b7 : (0 < l0.length) = True := eq_true (by omega)
            (try rw [show ((0 : Int)).toNat = 0 from rfl] at a2)
            (try rw [Addr.add_zero'] at a2)
            replace a3 := eq_true a3
            replace a4 := eq_true a4
            have e8 : 0 ≤ (1 : Int) := (by omega)
            have e9 : 1 < (l0.length : Int) := of_decide_eq_true (by first | (with_reducible assumption) | assumption)
            obtain ⟨h3, i9, e0⟩ := Kd.at_int a5.out 1 e8 e9
            obtain rfl : a8 = h3 := (by injection i9)
            (try simp only [show (1 : Int).toNat = 1 from rfl, Nat.reduceMul, Nat.reduceEqDiff, Go.Addr.add, ↓reduceIte] at e0)
            have k7 : (1 < l0.length) = True := eq_true (by omega)
            (try rw [show ((1 : Int)).toNat = 1 from rfl] at e0)
            replace e8 := eq_true e8
            replace e9 := eq_true e9
            go_wp2
            go_ret
            exact ⟨by first | rfl | (simp; done) | (simp [*]; done), by repeat (first | exact Drawn0.refl _ | apply Drawn0.step)⟩
           ·rw [if_neg f6] at H
            exact absurd H (by simp)
          ·rw [if_neg d4] at H
           have h1 : ((rd l0 0) == 237) = false := beq_eq_false_iff_ne.mpr d4
           have h2 : ((rd l0 0) != 237) = true := bne_iff_ne.mpr d4
           by_cases d5 : (rd l0 0) = 240
           ·rw [if_pos d5] at H
            have h4 : ((rd l0 0) == 240) = true := beq_iff_eq.mpr d5
            have h5 : ((rd l0 0) != 240) = false := bne_eq_false_iff_eq.mpr d5
            clear d5
            by_cases f7 : 1 < (l0.length : Int)
            ·rw [if_pos f7] at H
             have k8 : decide (1 < (l0.length : Int)) = true := decide_eq_true f7
             have k9 : decide (1 < l0.length) = true := decide_eq_true (by omega)
             clear f7
             obtain rfl := Option.some.inj H
             have a3 : 0 ≤ (0 : Int) := (by omega)
             have a4 : 0 < (l0.length : Int) := of_decide_eq_true (by first | (with_reducible assumption) | assumption)
             obtain ⟨a8, a9, a2⟩ := Kd.at_int a5.out 0 a3 a4
             cases a9
             have b7 : (0 < l0.length) = True := eq_true (by omega)
             (try rw [show ((0 : Int)).toNat = 0 from rfl] at a2)
             (try rw [Addr.add_zero'] at a2)
             replace a3 := eq_true a3
             replace a4 := eq_true a4
             have f0 : 0 ≤ (1 : Int) := (by omega)
             have f1 : 1 < (l0.length : Int) := of_decide_eq_true (by first | (with_reducible assumption) | assumption)
             obtain ⟨h6, j1, e1⟩ := Kd.at_int a5.out 1 f0 f1
             obtain rfl : a8 = h6 := (by injection j1)
             (try simp only [show (1 : Int).toNat = 1 from rfl, Nat.reduceMul, Nat.reduceEqDiff, Go.Addr.add, ↓reduceIte] at e1)
             have l1 : (1 < l0.length) = True := eq_true (by omega)
             (try rw [show ((1 : Int)).toNat = 1 from rfl] at e1)
             replace f0 := eq_true f0
             replace f1 := eq_true f1
             go_wp2
             go_ret
             exact ⟨by first | rfl | (simp; done) | (simp [*]; done), by repeat (first | exact Drawn0.refl _ | apply Drawn0.step)⟩
            ·rw [if_neg f7] at H
             exact absurd H (by simp)
           ·rw [if_neg d5] at H
            have h4 : ((rd l0 0) == 240) = false := beq_eq_false_iff_ne.mpr d5
            have h5 : ((rd l0 0) != 240) = true := bne_iff_ne.mpr d5
            by_cases d6 : (rd l0 0) = 244
            ·rw [if_pos d6] at H
             have h7 : ((rd l0 0) == 244) = true := beq_iff_eq.mpr d6
             have h8 : ((rd l0 0) != 244) = false := bne_eq_false_iff_eq.mpr d6
             clear d6
             by_cases f8 : 1 < (l0.length : Int)
             ·rw [if_pos f8] at H
              have l2 : decide (1 < (l0.length : Int)) = true := decide_eq_true f8
              have l3 : decide (1 < l0.length) = true := decide_eq_true (by omega)
              clear f8
              obtain rfl := Option.some.inj H
              have a3 : 0 ≤ (0 : Int) := (by omega)
              have a4 : 0 < (l0.length : Int) := of_decide_eq_true (by first | (with_reducible assumption) | assumption)
              obtain ⟨a8, a9, a2⟩ := Kd.at_int a5.out 0 a3 a4
              cases a9
              have b7 : (0 < l0.length) = True := eq_true (by omega)
              (try rw [show ((0 : Int)).toNat = 0 from rfl] at a2)
              (try rw [Addr.add_zero'] at a2)
              replace a3 := eq_true a3
              replace a4 := eq_true a4
              have f2 : 0 ≤ (1 : Int) := (by omega)
              have f3 : 1 < (l0.length : Int) := of_decide_eq_true (by first | (with_reducible assumption) | assumption)
              obtain ⟨h9, j2, e2⟩ := Kd.at_int a5.out 1 f2 f3
              obtain rfl : a8 = h9 := (by injection j2)
              (try simp only [show (1 : Int).toNat = 1 from rfl, Nat.reduceMul, Nat.reduceEqDiff, Go.Addr.add, ↓reduceIte] at e2)
              have l4 : (1 < l0.length) = True := eq_true (by omega)
              (try rw [show ((1 : Int)).toNat = 1 from rfl] at e2)
              replace f2 := eq_true f2
              replace f3 := eq_true f3
              go_wp2
              go_ret
              exact ⟨by first | rfl | (simp; done) | (simp [*]; done), by repeat (first | exact Drawn0.refl _ | apply Drawn0.step)⟩
             ·rw [if_neg f8] at H
              exact absurd H (by simp)
            ·rw [if_neg d6] at H
             have h7 : ((rd l0 0) == 244) = false := beq_eq_false_iff_ne.mpr d6
             have h8 : ((rd l0 0) != 244) = true := bne_iff_ne.mpr d6
             obtain rfl := Option.some.inj H
             have a3 : 0 ≤ (0 : Int) := (by omega)
             have a4 : 0 < (l0.length : Int) := of_decide_eq_true (by first | (with_reducible assumption) | assumption)
             obtain ⟨a8, a9, a2⟩ := Kd.at_int a5.out 0 a3 a4
             cases a9
             have b7 : (0 < l0.length) = True := eq_true (by omega)
             (try rw [show ((0 : Int)).toNat = 0 from rfl] at a2)
             (try rw [Addr.add_zero'] at a2)
             replace a3 := eq_true a3
             replace a4 := eq_true a4
             go_wp2
             go_ret
             exact ⟨by first | rfl | (simp; done) | (simp [*]; done), by repeat (first | exact Drawn0.refl _ | apply Drawn0.step)⟩
        ·rw [if_neg f4] at H
         exact absurd H (by simp)
end Go.Proofs.Ytoefjhdcipgacaa.PA
end
section
namespace Go.Proofs.Ytoefjhdcipgacaa.PA
open Go.RowKit Go.Proofs.YtoefjhdcipgacaaW.PrintWords Go.Proofs.YtoefjhdcipgacaaW.PrintLast Go.Proofs.YtoefjhdcipgacaaW.PrintMore
attribute [local go_sem] max2_int min2_int max_two min_two max_three min_three max_four min_four   -- for this text's walks alone
set_option linter.unusedVariables false
set_option linter.unusedSimpArgs false
mutual
def stanzaref01_One.j0 : Nat → List Int → Int → Bool → Option (Int × Int × Int)
 | 0, _, _, _ => none
 | k + 1, x0, x1, o7 => if o7 = true then (some (0, 0, 0)) else (stanzaref01_One.l0 k x0 x1 0)
def stanzaref01_One.j2 : Nat → List Int → Int → Int → Option (Int × Int × Int)
 | 0, _, _, _ => none
 | k + 1, x0, x1, x5 => if x5 = 0 then (some (65533, x1, 1)) else (if 0 ≤ x1 then (if x1 < (x0.length : Int) then ((stanzaref01_length.f k (rd x0 x1)).bind fun b2 => (if x5 < b2 then (some (65533, x1, x5)) else ((some (([0, 127, 31, 15, 7] : List Int) : List Int)).bind fun a8 => (if 0 ≤ x5 then (if x5 < (a8.length : Int) then (stanzaref01_One.l1 k x0 x1 x5 (Go.bits .and .i32 (wrap32 (rd x0 x1)) (rd a8 x5)) 1) else (none)) else (none))))) else (none)) else (none))
def stanzaref01_One.l1 : Nat → List Int → Int → Int → Int → Int → Option (Int × Int × Int)
 | 0, _, _, _, _, _ => none
 | k + 1, x0, x1, x5, x6, x8 => if x8 < x5 then (if 0 ≤ (wrap64 (x1 + x8)) then (if (wrap64 (x1 + x8)) < (x0.length : Int) then (stanzaref01_One.l1 k x0 x1 x5 (wrap32 ((wrap32 ((wrap32 (x6 * 64)) + (wrap32 (rd x0 (wrap64 (x1 + x8)))))) - 128)) (wrap64 (x8 + 1))) else (none)) else (none)) else (some (x6, x1, x5))
def stanzaref01_One.l0 : Nat → List Int → Int → Int → Option (Int × Int × Int)
 | 0, _, _, _ => none
 | k + 1, x0, x1, x5 => if x5 < 4 then (if x5 < (wrap64 ((x0.length : Int) - x1)) then (if 0 ≤ x1 then (if x1 ≤ (wrap64 ((wrap64 (x1 + x5)) + 1)) then (if (wrap64 ((wrap64 (x1 + x5)) + 1)) ≤ (x0.length : Int) then ((stanzaref01_Begins.f k ((x0.take ((wrap64 ((wrap64 (x1 + x5)) + 1)) : Int).toNat).drop (x1 : Int).toNat)).bind fun f5 => (if f5 = true then (stanzaref01_One.l0 k x0 x1 (wrap64 (x5 + 1))) else (stanzaref01_One.j2 k x0 x1 x5))) else (none)) else (none)) else (none)) else (stanzaref01_One.j2 k x0 x1 x5)) else (stanzaref01_One.j2 k x0 x1 x5)
end
def stanzaref01_One.f (k : Nat) (l0 : List Int) (a1 : Int) : Option (Int × Int × Int) := if a1 < 0 then (stanzaref01_One.j0 k l0 a1 true) else (stanzaref01_One.j0 k l0 a1 (decide (a1 ≥ (l0.length : Int))))
set_option maxHeartbeats 8000000 in
set_option maxRecDepth 100000 in
theorem stanzaref01_One.calls (k : Nat) (A0 : Option Addr) (c0 : Nat) (l0 : List Int) (a1 : Int) (r1 : Int) (r2 : Int) (r3 : Int) (w : World) (n0 : Kd.C (Kd.int .u8) w A0 l0.length l0) (n1 : l0.length ≤ c0) (h : stanzaref01_One.f k l0 a1 = some (r1, r2, r3)) :
  Calls Try.prog 44 #[.slice A0 l0.length c0, .int .i64 a1] w fun e w' => e = .returned (.agg #[.int .i32 r1, .int .i64 r2, .int .i64 r3]) ∧ Below w.heap.size w w' := by
 have hu66 := Try.underlying66
 have e9 := Aside0.mk n0
 have n2 := Aside0.mk n1
 clear n0 n1
 have HB := Aside0.mk (Below.refl w.heap.size w)
 have H : (if a1 < 0 then (stanzaref01_One.j0 k l0 a1 true) else (stanzaref01_One.j0 k l0 a1 (decide (a1 ≥ (l0.length : Int))))) = some (r1, r2, r3) := h
 clear h
 have k8 := Aside0.mk H
 clear H
 go_enter Try.func44, Try.ntmps44
 go_upto_region 1 with (first | ((with_reducible refine gate_dst (N := 4) rfl ?_); (try (refine gate_guard (by rfl) ?_; dsimp only)); refine box_event ?hg (N := 4) ?hd (cs := #[.int .i32 0, .int .i64 0, .int .i64 0]) (t := 66) ?hr ?_; (case hd => rfl); (case hg => rfl); (case hr => first | (go_simp; done) | (go_simp; rfl)); intro a4 hg w4 hbox hb; have d3 := Aside0.mk (below_step (by exact HB.out) hb); have d4 := Aside0.mk (hbox); have g2 := Aside0.mk ((by rw [hg]; exact (below_size (by exact HB.out)) : w.heap.size ≤ a4)); have n3 := Aside0.mk ((by rw [hg]; exact (below_size (by exact HB.out)) : w.heap.size ≤ a4)); clear HB; have HB := d3; have a2 := d4; have o9 := g2; have a6 := n3; clear d3 d4 g2 n3; clear hb hbox hg))
 (try simp only [Act.put, List.setIfInBounds_toArray, List.set_cons_zero, List.set_cons_succ])
 go_cut [16] (fun o8 wc => ∃ (kq : Nat) (d7 : Bool), o8 = .bool d7 ∧ Aside0 (stanzaref01_One.j0 kq l0 a1 d7 = some (r1, r2, r3)) ∧ Aside0 (kq ≤ k) ∧ Aside0 (wc.heap[a4]? = some (.cells #[.int .i32 0, .int .i64 0, .int .i64 0] 66 (0, 0))) ∧ Aside0 (Below w.heap.size w wc))
 case first =>
  have H := k8.out
  clear k8
  by_cases c5 : a1 < 0
  ·rw [if_pos c5] at H
   have b1 : decide (a1 < 0) = true := decide_eq_true c5
   clear c5
   (first | rw [b1] | (simp only [i64_w, i32_w]; rw [b1]) | skip)
   have H' := Aside0.mk H
   clear H
   go_wp2
   go_meet
   case rel => exact ⟨_, (true), (by first | rfl | (simp; done) | (simp [*]; done)), H', ⟨by first | omega | exact Nat.le_refl _⟩, ⟨by exact a2.out⟩, ⟨by exact HB.out⟩⟩
  ·rw [if_neg c5] at H
   have b1 : decide (a1 < 0) = false := decide_eq_false c5
   clear c5
   (first | rw [b1] | (simp only [i64_w, i32_w]; rw [b1]) | skip)
   have H' := Aside0.mk H
   clear H
   go_wp2
   go_meet
   case rel => exact ⟨_, (decide (a1 ≥ (l0.length : Int))), (by first | rfl | (simp; done) | (simp [*]; done)), H', ⟨by first | omega | exact Nat.le_refl _⟩, ⟨by exact a2.out⟩, ⟨by exact HB.out⟩⟩
 case rest =>
  clear k8
  try clear p2
  try clear c4
  try clear c5
  try clear b1
  obtain ⟨kq, d7, rfl, HA, d9, a2, HB⟩ := hcut
  cases kq with
  | zero => exact absurd HA.out (by simp [stanzaref01_One.j0])
  | succ h2 =>
   have H := HA.out
   clear HA
   simp only [stanzaref01_One.j0] at H
   by_cases c6 : d7 = true
   ·subst c6
    have H1 : (some (0, 0, 0)) = some (r1, r2, r3) := by rw [if_pos rfl] at H; exact H
    clear H
    have H := H1
    clear H1
    simp only [Option.some.injEq, Prod.mk.injEq] at H
    obtain ⟨rfl, rfl, rfl⟩ := H
    have e0 : wc.cell? ⟨a4, 0, none⟩ = some (.int .i32 0) := (blk_cell a2.out 0).trans rfl
    have e1 : wc.cell? ⟨a4, 1, none⟩ = some (.int .i64 0) := (blk_cell a2.out 1).trans rfl
    have e2 : wc.cell? ⟨a4, 2, none⟩ = some (.int .i64 0) := (blk_cell a2.out 2).trans rfl
    have e3 := blk_frozen a2.out 0
    have e4 := blk_frozen a2.out 1
    have e5 := blk_frozen a2.out 2
    go_wp2
    refine bodyPost_ret (results_cell_row rfl _ _ a4 66 #[.int .i32 0, .int .i64 0, .int .i64 0] (0, 0) _ rfl (by refine blk_put (cs := #[.int .i32 0, .int .i64 0, .int .i64 0]) ?_ 2 _ rfl; refine blk_put (cs := #[.int .i32 0, .int .i64 0, .int .i64 0]) ?_ 1 _ rfl; refine blk_put (cs := #[.int .i32 0, .int .i64 0, .int .i64 0]) ?_ 0 _ rfl; exact a2.out) Try.underlying66 rfl (by kernel_rfl)) rfl ?_
    exact ⟨by first | rfl | (simp [errW_none, errW_some] <;> rfl) | (simp [*, errW_none, errW_some] <;> rfl), by repeat (first | (with_reducible first | exact HB.out | apply below_alloc | apply pw_below_drewN | apply below_drew1 | refine below_set ?_ a6.out) | exact HB.out)⟩
   ·replace c6 := Bool.eq_false_iff.mpr c6
    subst c6
    have H1 : (stanzaref01_One.l0 h2 l0 a1 0) = some (r1, r2, r3) := by rw [if_neg (show ¬ (false = true) by decide)] at H; exact H
    clear H
    have H := H1
    clear H1
    have k9 := Aside0.mk H
    clear H
    go_upto_block 0 with (fail)
    go_cut [5] (fun v5 wc => ∃ (kq : Nat) (a3 : Int), v5 = .int .i64 a3 ∧ Aside0 (stanzaref01_One.j2 kq l0 a1 a3 = some (r1, r2, r3)) ∧ Aside0 (kq ≤ h2) ∧ Aside0 (wc.heap[a4]? = some (.cells #[.int .i32 0, .int .i64 0, .int .i64 0] 66 (0, 0))) ∧ Aside0 (Below w.heap.size w wc))
    case first =>
     have H := k9.out
     clear k9
     have H' := Aside0.mk H
     clear H
     go_wp2
     go_loopg [5] h2 (fun kq v5 w' => ∃ (a5 : Int), v5 = .int .i64 a5 ∧ Aside0 (stanzaref01_One.l0 kq l0 a1 a5 = some (r1, r2, r3)) ∧ Aside0 (kq ≤ h2) ∧ Aside0 (w'.heap[a4]? = some (.cells #[.int .i32 0, .int .i64 0, .int .i64 0] 66 (0, 0))) ∧ Aside0 (Below w.heap.size w w'))
     case atStart => exact ⟨(0), (by first | rfl | (simp; done) | (simp [*]; done)), H', ⟨Nat.le_refl _⟩, ⟨by exact a2.out⟩, ⟨by exact HB.out⟩⟩
     case round =>
      clear H'
      try clear p2
      try clear c4
      try clear c5
      try clear b1
      try clear c6
      try clear e0
      try clear e1
      try clear e2
      try clear e3
      try clear e4
      try clear e5
      try clear p2
      obtain ⟨a5, rfl, HA, g3, a2, HB⟩ := hrel
      cases gk with
      | zero => exact absurd HA.out (by simp [stanzaref01_One.l0])
      | succ k2 =>
       have H := HA.out
       clear HA
       simp only [stanzaref01_One.l0] at H
       by_cases c9 : a5 < 4
       ·rw [if_pos c9] at H
        have c7 : decide (a5 < 4) = true := decide_eq_true c9
        clear c9
        (first | rw [c7] | (simp only [i64_w, i32_w]; rw [c7]) | skip)
        by_cases d5 : a5 < (wrap64 ((l0.length : Int) - a1))
        ·rw [if_pos d5] at H
         have f6 : decide (a5 < (wrap64 ((l0.length : Int) - a1))) = true := decide_eq_true d5
         clear d5
         by_cases e6 : 0 ≤ a1
         ·rw [if_pos e6] at H
          have h3 := eq_true e6
          have h4 : decide (0 ≤ a1) = true := decide_eq_true e6
          clear e6
          by_cases f0 : a1 ≤ (wrap64 ((wrap64 (a1 + a5)) + 1))
          ·rw [if_pos f0] at H
           have h5 := eq_true f0
           have h6 : decide (a1 ≤ (wrap64 ((wrap64 (a1 + a5)) + 1))) = true := decide_eq_true f0
           by_cases f1 : (wrap64 ((wrap64 (a1 + a5)) + 1)) ≤ (l0.length : Int)
           ·rw [if_pos f1] at H
            have h7 := eq_true f1
            have h8 : decide ((wrap64 ((wrap64 (a1 + a5)) + 1)) ≤ (l0.length : Int)) = true := decide_eq_true f1
            replace H := Option.bind_eq_some_iff.mp H
            obtain ⟨f5, l2, H⟩ := H
            replace H : (if f5 = true then (stanzaref01_One.l0 k2 l0 a1 (wrap64 (a5 + 1))) else (stanzaref01_One.j2 k2 l0 a1 a5)) = some (r1, r2, r3) := H
            have h9 := Aside0.mk l2
            clear l2
            by_cases f2 : f5 = true
            ·subst f2
             have H1 : (stanzaref01_One.l0 k2 l0 a1 (wrap64 (a5 + 1))) = some (r1, r2, r3) := by rw [if_pos rfl] at H; exact H
             clear H
             have H := H1
             clear H1
             have H' := Aside0.mk H
             clear H
             obtain ⟨i016, i0, _, i1, _⟩ := info_parts info5
             obtain ⟨q0, l3, l4, l5⟩ := print_mid_of (P := Try.prog) (Value.int .u8) 0 27 5 .i64 .i64 Try.underlying27 i0 i1 A0 c0 l0 a1 (wrap64 ((wrap64 (a1 + a5)) + 1)) (of_decide_eq_true (by first | (with_reducible assumption) | assumption)) (by first | omega | exact of_decide_eq_true (by first | (with_reducible assumption) | assumption)) (of_decide_eq_true (by first | (with_reducible assumption) | assumption)) n2.out
             have c8 := Aside0.mk (Kd.C_of_reads (h1 := fun _ => rfl) (l4 _ (Kd.reads_of_C e9.out)))
             have d0 := Aside0.mk l5
             clear l4 l5 i0 i1
             obtain ⟨L16, l6⟩ : ∃ L, (l0.take ((wrap64 ((wrap64 (a1 + a5)) + 1)) : Int).toNat).drop (a1 : Int).toNat = L := ⟨_, rfl⟩
             rw [l6] at l3 c8 d0 h9
             clear l6
             go_wp2_with (first | (go_at_call 58; (with_reducible refine (stanzaref01_Begins.calls k2 _ _ L16 true _ ?side1 ?side2 h9.out).mono ?_); (case side1 => repeat (first | exact (Kd.C_below c8.out HB.out) | (with_reducible refine Kd.C_alloc ?_ _) | (with_reducible refine Kd.C_drewN ?_ _) | (with_reducible refine Kd.C_drew ?_))); (case side2 => exact d0.out); rintro e w' ⟨rfl, ⟨nd, rfl⟩⟩))
             go_roundg k2
             case measure => have := d9.out; have := g3.out; omega
             case rel => exact ⟨(wrap64 (a5 + 1)), (by first | rfl | (simp; done) | (simp [*]; done)), H', ⟨by have := d9.out; have := g3.out; omega⟩, ⟨by refine blk_drewN ?_ _; exact a2.out⟩, ⟨by repeat (first | (with_reducible first | exact HB.out | apply below_alloc | apply pw_below_drewN | apply below_drew1 | refine below_set ?_ a6.out) | exact HB.out)⟩⟩
            ·replace f2 := Bool.eq_false_iff.mpr f2
             subst f2
             have H1 : (stanzaref01_One.j2 k2 l0 a1 a5) = some (r1, r2, r3) := by rw [if_neg (show ¬ (false = true) by decide)] at H; exact H
             clear H
             have H := H1
             clear H1
             have H' := Aside0.mk H
             clear H
             obtain ⟨i017, i2, _, i3, _⟩ := info_parts info5
             obtain ⟨q1, l7, l8, l9⟩ := print_mid_of (P := Try.prog) (Value.int .u8) 0 27 5 .i64 .i64 Try.underlying27 i2 i3 A0 c0 l0 a1 (wrap64 ((wrap64 (a1 + a5)) + 1)) (of_decide_eq_true (by first | (with_reducible assumption) | assumption)) (by first | omega | exact of_decide_eq_true (by first | (with_reducible assumption) | assumption)) (of_decide_eq_true (by first | (with_reducible assumption) | assumption)) n2.out
             have c8 := Aside0.mk (Kd.C_of_reads (h1 := fun _ => rfl) (l8 _ (Kd.reads_of_C e9.out)))
             have d0 := Aside0.mk l9
             clear l8 l9 i2 i3
             obtain ⟨L17, m0⟩ : ∃ L, (l0.take ((wrap64 ((wrap64 (a1 + a5)) + 1)) : Int).toNat).drop (a1 : Int).toNat = L := ⟨_, rfl⟩
             rw [m0] at l7 c8 d0 h9
             clear m0
             go_wp2_with (first | (go_at_call 58; (with_reducible refine (stanzaref01_Begins.calls k2 _ _ L17 false _ ?side1 ?side2 h9.out).mono ?_); (case side1 => repeat (first | exact (Kd.C_below c8.out HB.out) | (with_reducible refine Kd.C_alloc ?_ _) | (with_reducible refine Kd.C_drewN ?_ _) | (with_reducible refine Kd.C_drew ?_))); (case side2 => exact d0.out); rintro e w' ⟨rfl, ⟨nd, rfl⟩⟩))
             go_meet
             case rel => exact ⟨_, (a5), (by first | rfl | (simp; done) | (simp [*]; done)), H', ⟨by have := d9.out; have := g3.out; first | omega | exact Nat.le_refl _⟩, ⟨by refine blk_drewN ?_ _; exact a2.out⟩, ⟨by repeat (first | (with_reducible first | exact HB.out | apply below_alloc | apply pw_below_drewN | apply below_drew1 | refine below_set ?_ a6.out) | exact HB.out)⟩⟩
           ·rw [if_neg f1] at H
            exact absurd H (by simp)
          ·rw [if_neg f0] at H
           exact absurd H (by simp)
         ·rw [if_neg e6] at H
          exact absurd H (by simp)
        ·rw [if_neg d5] at H
         have f6 : decide (a5 < (wrap64 ((l0.length : Int) - a1))) = false := decide_eq_false d5
         clear d5
         have H' := Aside0.mk H
         clear H
         go_wp2
         go_meet
         case rel => exact ⟨_, (a5), (by first | rfl | (simp; done) | (simp [*]; done)), H', ⟨by have := d9.out; have := g3.out; first | omega | exact Nat.le_refl _⟩, ⟨by exact a2.out⟩, ⟨by exact HB.out⟩⟩
       ·rw [if_neg c9] at H
        have c7 : decide (a5 < 4) = false := decide_eq_false c9
        clear c9
        (first | rw [c7] | (simp only [i64_w, i32_w]; rw [c7]) | skip)
        have H' := Aside0.mk H
        clear H
        go_wp2
        go_meet
        case rel => exact ⟨_, (a5), (by first | rfl | (simp; done) | (simp [*]; done)), H', ⟨by have := d9.out; have := g3.out; first | omega | exact Nat.le_refl _⟩, ⟨by exact a2.out⟩, ⟨by exact HB.out⟩⟩
    case rest =>
     clear k9
     try clear c1
     try clear p2
     try clear c4
     try clear c5
     try clear b1
     try clear c6
     try clear p6
     try clear c9
     try clear c7
     try clear d5
     try clear f6
     try clear e6
     try clear h3
     try clear h4
     try clear f0
     try clear h5
     try clear h6
     try clear f1
     try clear h7
     try clear h8
     try clear f2
     try clear e0
     try clear e1
     try clear e2
     try clear e3
     try clear e4
     try clear e5
     try clear p2
     obtain ⟨kq, a3, rfl, HA, n4, a2, HB⟩ := hcut
     cases kq with
     | zero => exact absurd HA.out (by simp [stanzaref01_One.j2])
     | succ f3 =>
      have H := HA.out
      clear HA
      simp only [stanzaref01_One.j2] at H
      by_cases d6 : a3 = 0
      ·rw [if_pos d6] at H
       have i4 : (a3 == 0) = true := beq_iff_eq.mpr d6
       have i5 : (a3 != 0) = false := bne_eq_false_iff_eq.mpr d6
       clear d6
       simp only [Option.some.injEq, Prod.mk.injEq] at H
       obtain ⟨rfl, rfl, rfl⟩ := H
       have j3 : wc.cell? ⟨a4, 0, none⟩ = some (.int .i32 0) := (blk_cell a2.out 0).trans rfl
       have j4 : wc.cell? ⟨a4, 1, none⟩ = some (.int .i64 0) := (blk_cell a2.out 1).trans rfl
       have j5 : wc.cell? ⟨a4, 2, none⟩ = some (.int .i64 0) := (blk_cell a2.out 2).trans rfl
       have j6 := blk_frozen a2.out 0
       have j7 := blk_frozen a2.out 1
       have j8 := blk_frozen a2.out 2
       go_wp2
       refine bodyPost_ret (results_cell_row rfl _ _ a4 66 #[.int .i32 65533, .int .i64 a1, .int .i64 1] (0, 0) _ rfl (by refine blk_put (cs := #[.int .i32 65533, .int .i64 a1, .int .i64 0]) ?_ 2 _ rfl; refine blk_put (cs := #[.int .i32 65533, .int .i64 0, .int .i64 0]) ?_ 1 _ rfl; refine blk_put (cs := #[.int .i32 0, .int .i64 0, .int .i64 0]) ?_ 0 _ rfl; exact a2.out) Try.underlying66 rfl (by kernel_rfl)) rfl ?_
       exact ⟨by first | rfl | (simp [errW_none, errW_some] <;> rfl) | (simp [*, errW_none, errW_some] <;> rfl), by repeat (first | (with_reducible first | exact HB.out | apply below_alloc | apply pw_below_drewN | apply below_drew1 | refine below_set ?_ a6.out) | exact HB.out)⟩
      ·rw [if_neg d6] at H
       have i4 : (a3 == 0) = false := beq_eq_false_iff_ne.mpr d6
       have i5 : (a3 != 0) = true := bne_iff_ne.mpr d6
       by_cases g4 : 0 ≤ a1
       ·rw [if_pos g4] at H
        have m3 : decide (0 ≤ a1) = true := decide_eq_true g4
        clear g4
        by_cases g5 : a1 < (l0.length : Int)
        ·rw [if_pos g5] at H
         have m4 : decide (a1 < (l0.length : Int)) = true := decide_eq_true g5
         clear g5
         replace H := Option.bind_eq_some_iff.mp H
         obtain ⟨b2, m1, H⟩ := H
         replace H : (if a3 < b2 then (some (65533, a1, a3)) else ((some (([0, 127, 31, 15, 7] : List Int) : List Int)).bind fun a8 => (if 0 ≤ a3 then (if a3 < (a8.length : Int) then (stanzaref01_One.l1 f3 l0 a1 a3 (Go.bits .and .i32 (wrap32 (rd l0 a1)) (rd a8 a3)) 1) else (none)) else (none)))) = some (r1, r2, r3) := H
         have n5 := Aside0.mk m1
         clear m1
         by_cases e7 : a3 < b2
         ·rw [if_pos e7] at H
          have i6 : decide (a3 < b2) = true := decide_eq_true e7
          clear e7
          simp only [Option.some.injEq, Prod.mk.injEq] at H
          obtain ⟨rfl, rfl, rfl⟩ := H
          have b7 : 0 ≤ (a1 : Int) := of_decide_eq_true (by first | (with_reducible assumption) | assumption)
          have b8 : a1 < (l0.length : Int) := of_decide_eq_true (by first | (with_reducible assumption) | assumption)
          obtain ⟨f7, g8, a7⟩ := Kd.at_int e9.out a1 b7 b8
          cases g8
          replace a7 := (HB.out.cell (World.block_lt_of_cell? w _ a7)).trans a7
          replace b7 := eq_true b7
          replace b8 := eq_true b8
          go_wp2_with (first | ((with_reducible refine gate_callee (f := 59) rfl ?_); refine goesL_ (some 49) rfl rfl Try.func59 (by kernel_rfl) rfl #[.int .u8 (rd l0 a1)] rfl (by (try simp only [List.map_toArray, List.map_cons, List.map_nil]); first | done | rfl | (simp only [List.length_drop, List.length_take]; rfl)) ?_; (with_reducible refine (stanzaref01_length.calls f3 (rd l0 a1) b2 _ n5.out).mono ?_); rintro e w' ⟨rfl, ⟨nd, rfl⟩⟩; refine ⟨_, rfl, ?_⟩; (try (rw [drewN_self wc]; generalize hq_ : World.drewN wc _ = wc; have d3 : Aside0 (wc.heap[a4]? = some (.cells #[.int .i32 0, .int .i64 0, .int .i64 0] 66 (0, 0))) := ⟨by rw [← hq_]; exact (by refine blk_drewN ?_ _; exact a2.out)⟩; have d4 : Aside0 (Below w.heap.size w wc) := ⟨by rw [← hq_]; exact (by repeat (first | (with_reducible first | exact HB.out | apply below_alloc | apply pw_below_drewN | apply below_drew1 | refine below_set ?_ a6.out) | exact HB.out))⟩; clear a2 HB hq_; have a2 := d3; have HB := d4; clear d3 d4)); have j9 : wc.cell? ⟨a4, 0, none⟩ = some (.int .i32 0) := (blk_cell a2.out 0).trans rfl; have k0 : wc.cell? ⟨a4, 1, none⟩ = some (.int .i64 0) := (blk_cell a2.out 1).trans rfl; have k1 : wc.cell? ⟨a4, 2, none⟩ = some (.int .i64 0) := (blk_cell a2.out 2).trans rfl; have k4 := blk_frozen a2.out 0; have k5 := blk_frozen a2.out 1; have k6 := blk_frozen a2.out 2))
          refine bodyPost_ret (results_cell_row rfl _ _ a4 66 #[.int .i32 65533, .int .i64 a1, .int .i64 a3] (0, 0) _ rfl (by refine blk_put (cs := #[.int .i32 65533, .int .i64 a1, .int .i64 0]) ?_ 2 _ rfl; refine blk_put (cs := #[.int .i32 65533, .int .i64 0, .int .i64 0]) ?_ 1 _ rfl; refine blk_put (cs := #[.int .i32 0, .int .i64 0, .int .i64 0]) ?_ 0 _ rfl; exact a2.out) Try.underlying66 rfl (by kernel_rfl)) rfl ?_
          exact ⟨by first | rfl | (simp [errW_none, errW_some] <;> rfl) | (simp [*, errW_none, errW_some] <;> rfl), by repeat (first | (with_reducible first | exact HB.out | apply below_alloc | apply pw_below_drewN | apply below_drew1 | refine below_set ?_ a6.out) | exact HB.out)⟩
         ·rw [if_neg e7] at H
          have i6 : decide (a3 < b2) = false := decide_eq_false e7
          clear e7
          obtain ⟨a8, d1⟩ : ∃ y_ : List Int, y_ = (([0, 127, 31, 15, 7] : List Int)) := ⟨_, rfl⟩
          replace H : (if 0 ≤ a3 then (if a3 < (a8.length : Int) then (stanzaref01_One.l1 f3 l0 a1 a3 (Go.bits .and .i32 (wrap32 (rd l0 a1)) (rd a8 a3)) 1) else (none)) else (none)) = some (r1, r2, r3) := by first | (rw [d1]; with_reducible exact H) | (have m2 := (Option.bind_some _ _).symm.trans H; rw [d1]; with_reducible exact m2) | (have m2 := (Option.bind_some _ _).symm.trans H; with_reducible exact m2) | with_reducible exact H | (rw [d1]; exact H) | exact H
          have i7 := Aside0.mk d1
          clear d1
          by_cases g6 : 0 ≤ a3
          ·rw [if_pos g6] at H
           have m5 : decide (0 ≤ a3) = true := decide_eq_true g6
           clear g6
           by_cases g7 : a3 < (a8.length : Int)
           ·rw [if_pos g7] at H
            have m6 : decide (a3 < (a8.length : Int)) = true := decide_eq_true g7
            clear g7
            have H' := Aside0.mk H
            clear H
            have b7 : 0 ≤ (a1 : Int) := of_decide_eq_true (by first | (with_reducible assumption) | assumption)
            have b8 : a1 < (l0.length : Int) := of_decide_eq_true (by first | (with_reducible assumption) | assumption)
            obtain ⟨f7, g8, a7⟩ := Kd.at_int e9.out a1 b7 b8
            cases g8
            replace a7 := (HB.out.cell (World.block_lt_of_cell? w _ a7)).trans a7
            replace b7 := eq_true b7
            replace b8 := eq_true b8
            go_wp2_with (first | ((with_reducible refine gate_callee (f := 59) rfl ?_); refine goesL_ (some 49) rfl rfl Try.func59 (by kernel_rfl) rfl #[.int .u8 (rd l0 a1)] rfl (by (try simp only [List.map_toArray, List.map_cons, List.map_nil]); first | done | rfl | (simp only [List.length_drop, List.length_take]; rfl)) ?_; (with_reducible refine (stanzaref01_length.calls f3 (rd l0 a1) b2 _ n5.out).mono ?_); rintro e w' ⟨rfl, ⟨nd, rfl⟩⟩; refine ⟨_, rfl, ?_⟩; have f8 : 0 ≤ (a1 : Int) := of_decide_eq_true (by first | (with_reducible assumption) | assumption); have f9 : a1 < (l0.length : Int) := of_decide_eq_true (by first | (with_reducible assumption) | assumption); obtain ⟨m7, n7, c3⟩ := Kd.at_int e9.out a1 f8 f9; obtain rfl : f7 = m7 := (by injection n7); replace c3 := (HB.out.cell (World.block_lt_of_cell? w _ c3)).trans c3; replace f8 := eq_true f8; replace f9 := eq_true f9) | ((with_reducible refine gate_dst (N := 59) rfl ?_); (try (refine gate_guard (by rfl) ?_; dsimp only)); refine Kd.R_lit (Kd.int .i32) _ 21 ?hg (N := 59) ?hd (xs := ([0, 127, 31, 15, 7] : List Int)) (inner := [.int .i32 0, .int .i32 127, .int .i32 31, .int .i32 15, .int .i32 7]) (ok := fun _ => True) (okp := fun _ => True) ?hr ?hp (fun _ hk => hk) trivial (Below.refl _ _) (Nat.le_refl _) (by simp) ?_; (case hd => rfl); (case hg => rfl); (case hr => first | (go_simp; done) | (go_simp; rfl)); (case hp => exact (Reps.one (show Kd.M (Kd.int .i32) _ _ _ 0 [.int .i32 0] from rfl) (Reps.one (show Kd.M (Kd.int .i32) _ _ _ 127 [.int .i32 127] from rfl) (Reps.one (show Kd.M (Kd.int .i32) _ _ _ 31 [.int .i32 31] from rfl) (Reps.one (show Kd.M (Kd.int .i32) _ _ _ 15 [.int .i32 15] from rfl) (Reps.one (show Kd.M (Kd.int .i32) _ _ _ 7 [.int .i32 7] from rfl) (Reps.none _ _))))))); intro p5 q3 e8 hb hg_ hnew_; clear hg_ hnew_; (first | rw [← i7.out] at e8 | (simp only [Int.reduceToNat] at e8; rw [← i7.out] at e8)); have d3 := Aside0.mk (Kd.R_lower e8 (below_size (by repeat (first | (with_reducible first | exact HB.out | apply below_alloc | apply pw_below_drewN | apply below_drew1 | refine below_set ?_ a6.out) | exact HB.out)))); have d4 := Aside0.mk (blk_below (g := a4) (o := .cells #[.int .i32 0, .int .i64 0, .int .i64 0] 66 (0, 0)) (by refine blk_drewN ?_ _; exact a2.out) hb); have g2 := Aside0.mk (below_step (by repeat (first | (with_reducible first | exact HB.out | apply below_alloc | apply pw_below_drewN | apply below_drew1 | refine below_set ?_ a6.out) | exact HB.out)) hb); clear a2; clear HB; have i8 := d3; have a2 := d4; have HB := g2; clear d3 d4 g2; clear hb e8; obtain ⟨p7, p8, n8⟩ := Kd.R_slice i8.out; subst n8; have g0 : 0 ≤ (a3 : Int) := of_decide_eq_true (by first | (with_reducible assumption) | assumption); have g1 : a3 < (a8.length : Int) := of_decide_eq_true (by first | (with_reducible assumption) | assumption); obtain ⟨p0, n9, k7⟩ := Kd.at_int (Kd.R_reads' i8.out).2.2 a3 g0 g1; cases n9; replace g0 := eq_true g0; replace g1 := eq_true g1))
            go_loopg [6, 8] f3 (fun kq v6 v8 w' => ∃ (b9 : Int) (b0 : Int), v6 = .int .i32 b9 ∧ v8 = .int .i64 b0 ∧ Aside0 (stanzaref01_One.l1 kq l0 a1 a3 b9 b0 = some (r1, r2, r3)) ∧ Aside0 (kq ≤ f3) ∧ Aside0 (w'.heap[a4]? = some (.cells #[.int .i32 0, .int .i64 0, .int .i64 0] 66 (0, 0))) ∧ Aside0 (Below w.heap.size w w'))
            case atStart => exact ⟨(Go.bits .and .i32 (wrap32 (rd l0 a1)) (rd a8 a3)), (1), (by first | rfl | (simp; done) | (simp [*]; done)), (by first | rfl | (simp; done) | (simp [*]; done)), H', ⟨Nat.le_refl _⟩, ⟨by exact a2.out⟩, ⟨by exact HB.out⟩⟩
            case round =>
             clear H'
             try clear c1
             try clear c2
             try clear p2
             try clear q2
             try clear q4
             try clear p3
             try clear c4
             try clear c5
             try clear b1
             try clear c6
             try clear p6
             try clear c9
             try clear c7
             try clear d5
             try clear f6
             try clear e6
             try clear h3
             try clear h4
             try clear f0
             try clear h5
             try clear h6
             try clear f1
             try clear h7
             try clear h8
             try clear f2
             try clear d6
             try clear i4
             try clear i5
             try clear g4
             try clear m3
             try clear g5
             try clear m4
             try clear e7
             try clear i6
             try clear g6
             try clear m5
             try clear g7
             try clear m6
             try clear q5
             try clear q6
             try clear p9
             try clear j3
             try clear j4
             try clear j5
             try clear j9
             try clear k0
             try clear k1
             try clear e0
             try clear e1
             try clear e2
             try clear j6
             try clear j7
             try clear j8
             try clear k4
             try clear k5
             try clear k6
             try clear e3
             try clear e4
             try clear e5
             try clear a7
             try clear c3
             try clear k7
             try clear p2
             try clear b7
             try clear f8
             try clear g0
             try clear p6
             try clear b8
             try clear f9
             try clear g1
             obtain ⟨b9, b0, rfl, rfl, HA, n6, a2, HB⟩ := hrel
             cases gk with
             | zero => exact absurd HA.out (by simp [stanzaref01_One.l1])
             | succ k3 =>
              have H := HA.out
              clear HA
              simp only [stanzaref01_One.l1] at H
              by_cases f4 : b0 < a3
              ·rw [if_pos f4] at H
               have m8 : decide (b0 < a3) = true := decide_eq_true f4
               clear f4
               obtain ⟨a9, d8⟩ : ∃ j_ : Int, (wrap64 (a1 + b0)) = j_ := ⟨_, rfl⟩
               replace H : (if 0 ≤ (a9) then (if (a9) < (l0.length : Int) then (stanzaref01_One.l1 k3 l0 a1 a3 (wrap32 ((wrap32 ((wrap32 (b9 * 64)) + (wrap32 (rd l0 (a9))))) - 128)) (wrap64 (b0 + 1))) else (none)) else (none)) = some (r1, r2, r3) := by first | (rw [d8] at H; exact H) | (simp only [d8] at H ⊢; exact H)
               have hji31w : (IntKind.i64.wrap (a1 + b0)) = a9 := (i64_w _).trans d8
               by_cases i9 : 0 ≤ (a9)
               ·rw [if_pos i9] at H
                have p1 : decide (0 ≤ (a9)) = true := decide_eq_true i9
                clear i9
                by_cases j1 : (a9) < (l0.length : Int)
                ·rw [if_pos j1] at H
                 have p4 : decide ((a9) < (l0.length : Int)) = true := decide_eq_true j1
                 clear j1
                 have H' := Aside0.mk H
                 clear H
                 have g9 : 0 ≤ ((a9) : Int) := of_decide_eq_true (by first | (with_reducible assumption) | assumption)
                 have h0 : (a9) < (l0.length : Int) := of_decide_eq_true (by first | (with_reducible assumption) | assumption)
                 obtain ⟨m9, o0, d2⟩ := Kd.at_int e9.out (a9) g9 h0
                 obtain rfl : f7 = m9 := (by injection o0)
                 replace d2 := (HB.out.cell (World.block_lt_of_cell? w _ d2)).trans d2
                 replace g9 := eq_true g9
                 replace h0 := eq_true h0
                 go_wp2
                 go_roundg k3
                 case measure => have := d9.out; have := n4.out; have := n6.out; omega
                 case rel => exact ⟨(wrap32 ((wrap32 ((wrap32 (b9 * 64)) + (wrap32 (rd l0 (a9))))) - 128)), (wrap64 (b0 + 1)), (by first | rfl | (simp; done) | (simp only [← d8] <;> (first | rfl | simp)) | (simp [*]; done)), (by first | rfl | (simp; done) | (simp [*]; done)), H', ⟨by have := d9.out; have := n4.out; have := n6.out; omega⟩, ⟨by exact a2.out⟩, ⟨by exact HB.out⟩⟩
                ·rw [if_neg j1] at H
                 exact absurd H (by simp)
               ·rw [if_neg i9] at H
                exact absurd H (by simp)
              ·rw [if_neg f4] at H
               have m8 : decide (b0 < a3) = false := decide_eq_false f4
               clear f4
               simp only [Option.some.injEq, Prod.mk.injEq] at H
               obtain ⟨rfl, rfl, rfl⟩ := H
               have o1 : wr.cell? ⟨a4, 0, none⟩ = some (.int .i32 0) := (blk_cell a2.out 0).trans rfl
               have o2 : wr.cell? ⟨a4, 1, none⟩ = some (.int .i64 0) := (blk_cell a2.out 1).trans rfl
               have o3 : wr.cell? ⟨a4, 2, none⟩ = some (.int .i64 0) := (blk_cell a2.out 2).trans rfl
               have o4 := blk_frozen a2.out 0
               have o5 := blk_frozen a2.out 1
               have o6 := blk_frozen a2.out 2
               go_wp2
               refine bodyPost_ret (results_cell_row rfl _ _ a4 66 #[.int .i32 b9, .int .i64 a1, .int .i64 a3] (0, 0) _ rfl (by refine blk_put (cs := #[.int .i32 b9, .int .i64 a1, .int .i64 0]) ?_ 2 _ rfl; refine blk_put (cs := #[.int .i32 b9, .int .i64 0, .int .i64 0]) ?_ 1 _ rfl; refine blk_put (cs := #[.int .i32 0, .int .i64 0, .int .i64 0]) ?_ 0 _ rfl; exact a2.out) Try.underlying66 rfl (by kernel_rfl)) rfl ?_
               exact ⟨by first | rfl | (simp [errW_none, errW_some] <;> rfl) | (simp [*, errW_none, errW_some] <;> rfl), by repeat (first | (with_reducible first | exact HB.out | apply below_alloc | apply pw_below_drewN | apply below_drew1 | refine below_set ?_ a6.out) | exact HB.out)⟩
           ·rw [if_neg g7] at H
            exact absurd H (by simp)
          ·rw [if_neg g6] at H
           exact absurd H (by simp)
        ·rw [if_neg g5] at H
         exact absurd H (by simp)
       ·rw [if_neg g4] at H
        exact absurd H (by simp)
end Go.Proofs.Ytoefjhdcipgacaa.PA
end
section
namespace Go.Proofs.Ytoefjhdcipgacaa.PA
open Go.RowKit Go.Proofs.YtoefjhdcipgacaaW.PrintWords Go.Proofs.YtoefjhdcipgacaaW.PrintLast Go.Proofs.YtoefjhdcipgacaaW.PrintMore
attribute [local go_sem] max2_int min2_int max_two min_two max_three min_three max_four min_four   -- for this text's walks alone
set_option linter.unusedVariables false
set_option linter.unusedSimpArgs false
def stanzaref01_All.l0 : Nat → List Int → List (S66) → Int → Option ((List (S66)))
 | 0, _, _, _ => none
 | k + 1, x0, x3, x4 => if x4 < (x0.length : Int) then ((stanzaref01_One.f k x0 x4).bind fun b2 => (if x3.length < 5864062014805 then (stanzaref01_All.l0 k x0 (x3 ++ [(⟨b2.1, b2.2.1, b2.2.2⟩ : S66)]) (wrap64 (x4 + b2.2.2))) else (none))) else (some x3)
def stanzaref01_All.f (k : Nat) (l0 : List Int) : Option ((List (S66))) := stanzaref01_All.l0 k l0 ([] : List (S66)) 0
set_option maxHeartbeats 8000000 in
set_option maxRecDepth 100000 in
theorem stanzaref01_All.calls (k : Nat) (A0 : Option Addr) (c0 : Nat) (l0 : List Int) (r : List (S66)) (w : World) (c1 : Kd.C (Kd.int .u8) w A0 l0.length l0) (c3 : l0.length ≤ c0) (h : stanzaref01_All.f k l0 = some r) :
  Calls Try.prog 28 #[.slice A0 l0.length c0] w fun e w' => ∃ c5 : Value, e = .returned (c5) ∧ Kd.R k66 66 w' w.heap.size (fun _ => True) c5 r ∧ Below w.heap.size w w' := by
 have hu66 := Try.underlying66
 have d2 := Aside0.mk c1
 have d3 := Aside0.mk c3
 clear c1 c3
 have HB := Aside0.mk (Below.refl w.heap.size w)
 have H : (stanzaref01_All.l0 k l0 ([] : List (S66)) 0) = some r := h
 clear h
 have H' := Aside0.mk H
 clear H
 go_enter Try.func28, Try.ntmps28
 go_wp2
 go_loopg [3, 4] k (fun kq v3 v4 w' => ∃ (a8 : List (S66)) (a6 : Int), v4 = .int .i64 a6 ∧ Aside0 (stanzaref01_All.l0 kq l0 a8 a6 = some r) ∧ Aside0 (kq ≤ k) ∧ Aside0 (Kd.R k66 66 w' w.heap.size (fun _ => True) v3 a8) ∧ Aside0 (Below w.heap.size w w'))
 case atStart => exact ⟨(([] : List (S66))), (0), (by first | rfl | (simp; done) | (simp [*]; done)), H', ⟨Nat.le_refl _⟩, ⟨by first | exact Kd.R_nil _ _ _ _ _ | exact Kd.N_nil _ _ _ _ _ | exact Kd.V_nil _ _ _ _ _ | exact Kd.Q_nil _ _ _ _ _ | exact Kd.S_nil _ _ _ _ _⟩, ⟨by repeat (first | (with_reducible first | exact HB.out | apply below_alloc | apply pw_below_drewN | apply below_drew1) | exact HB.out)⟩⟩
 case round =>
  clear H'
  obtain ⟨a8, a6, rfl, HA, c6, a7, HB⟩ := hrel
  cases gk with
  | zero => exact absurd HA.out (by simp [stanzaref01_All.l0])
  | succ k1 =>
   have H := HA.out
   clear HA
   simp only [stanzaref01_All.l0] at H
   by_cases c2 : a6 < (l0.length : Int)
   ·rw [if_pos c2] at H
    have d0 : decide (a6 < (l0.length : Int)) = true := decide_eq_true c2
    clear c2
    replace H := Option.bind_eq_some_iff.mp H
    obtain ⟨⟨a3, a5, a4⟩, c7, H⟩ := H
    replace H : (if a8.length < 5864062014805 then (stanzaref01_All.l0 k1 l0 (a8 ++ [(⟨a3, a5, a4⟩ : S66)]) (wrap64 (a6 + a4))) else (none)) = some r := H
    have A3 := Aside0.mk c7
    clear c7
    by_cases c4 : a8.length < 5864062014805
    ·rw [if_pos c4] at H
     have d1 := Aside0.mk c4
     clear c4
     obtain ⟨b6, a9⟩ : ∃ y_ : List (S66), y_ = (a8 ++ [(⟨a3, a5, a4⟩ : S66)]) := ⟨_, rfl⟩
     replace H : (stanzaref01_All.l0 k1 l0 b6 (wrap64 (a6 + a4))) = some r := by first | (rw [a9]; with_reducible exact H) | (have b7 := (Option.bind_some _ _).symm.trans H; rw [a9]; with_reducible exact b7) | (have b7 := (Option.bind_some _ _).symm.trans H; with_reducible exact b7) | with_reducible exact H | (rw [a9]; exact H) | exact H
     have b8 := Aside0.mk a9
     clear a9
     have H' := Aside0.mk H
     clear H
     go_wp2_with (first | ((with_reducible refine gate_callee (f := 44) rfl ?_); refine goesL_ (some 12) rfl rfl Try.func44 (by kernel_rfl) rfl #[.slice A0 l0.length c0, .int .i64 a6] rfl (by (try simp only [List.map_toArray, List.map_cons, List.map_nil]); first | done | rfl | (simp only [List.length_drop, List.length_take]; rfl)) ?_; (with_reducible refine (stanzaref01_One.calls k1 _ _ l0 a6 a3 a5 a4 _ ?side1 ?side2 A3.out).mono ?_); (case side1 => repeat (first | exact (Kd.C_below d2.out HB.out) | (with_reducible refine Kd.C_alloc ?_ _) | (with_reducible refine Kd.C_drewN ?_ _) | (with_reducible refine Kd.C_drew ?_))); (case side2 => exact d3.out); rintro e w5 ⟨rfl, hb⟩; refine ⟨_, rfl, ?_⟩; have b0 := Aside0.mk (Kd.R_below (by (with_reducible repeat (first | apply Kd.R_alloc | apply Kd.R_drewN | apply Kd.R_drew)); exact a7.out) hb); have b1 := Aside0.mk (below_step (by repeat (first | (with_reducible first | exact HB.out | apply below_alloc | apply pw_below_drewN | apply below_drew1) | exact HB.out)) hb); clear a7; clear HB; have a7 := b0; have HB := b1; clear b0 b1; (try clear hb); (try clear e8); (try clear hk); (try clear hi)) | ((with_reducible refine gate_dst (N := 5) rfl ?_); refine box_event ?hg (N := 5) ?hd (cs := #[.int .i32 0, .int .i64 0, .int .i64 0]) (t := 66) ?hr ?_; (case hd => rfl); (case hg => rfl); (case hr => first | (go_simp; done) | (go_simp; rfl)); intro a1 hg w6 hbox hb; have b0 := Aside0.mk (Kd.R_below (Kd.R_elderB (by (with_reducible repeat (first | apply Kd.R_alloc | apply Kd.R_drewN | apply Kd.R_drew)); exact a7.out) a1 (Nat.le_of_eq hg.symm)) hb); have b1 := Aside0.mk (below_step (by repeat (first | (with_reducible first | exact HB.out | apply below_alloc | apply pw_below_drewN | apply below_drew1) | exact HB.out)) hb); have b5 := Aside0.mk (hbox); have c8 := Aside0.mk ((by rw [hg]; exact (below_size (by repeat (first | (with_reducible first | exact HB.out | apply below_alloc | apply pw_below_drewN | apply below_drew1) | exact HB.out))) : w.heap.size ≤ a1)); have c9 := Aside0.mk ((by rw [hg]; exact (below_size (by repeat (first | (with_reducible first | exact HB.out | apply below_alloc | apply pw_below_drewN | apply below_drew1) | exact HB.out))) : w.heap.size ≤ a1)); clear a7; clear HB; have a7 := b0; have HB := b1; have a2 := b5; have e6 := c8; have b3 := c9; clear b0 b1 b5 c8 c9; clear hb hbox hg; have d4 : w6.cell? ⟨a1, 0, none⟩ = some (.int .i32 0) := (blk_cell a2.out 0).trans rfl; have d5 : w6.cell? ⟨a1, 1, none⟩ = some (.int .i64 0) := (blk_cell a2.out 1).trans rfl; have d6 : w6.cell? ⟨a1, 2, none⟩ = some (.int .i64 0) := (blk_cell a2.out 2).trans rfl; have d7 := blk_frozen a2.out 0; have d8 := blk_frozen a2.out 1; have d9 := blk_frozen a2.out 2) | ((with_reducible refine gate_builtin (b := .append) (xs := #[.tmp 13, .tmp 15]) rfl ?_); at_builtin; refine Kd.R_append k66 (w0 := w) w.heap.size rfl (.tmp 13) (.tmp 15) 55 66 (.agg #[(.int .i32 0), (.int .i64 0), (.int .i64 0)]) 24 rfl Try.underlying55 info66 rfl (by decide) (by omega) u3 a8 (⟨a3, a5, a4⟩ : S66) [.int .i32 a3, .int .i64 a5, .int .i64 a4] (fun k_ => k_ ≠ a1) (fun _ => False) rfl (by first | (go_simp; done) | (go_simp; rfl)) ?aP (fun _ hk => hk.elim) ?aF ?aO ?aB ?aS ?aL ?_; (case aP => exact k66_mkM _ _ _ (⟨a3, a5, a4⟩ : S66)); (case aB => exact (by repeat (first | (with_reducible first | exact HB.out | apply below_alloc | apply pw_below_drewN | apply below_drew1 | refine below_set ?_ b3.out) | exact HB.out))); (case aF => exact (fun k_ hk => Kd.freshB (g := a1) (o := .cells #[.int .i32 a3, .int .i64 a5, .int .i64 a4] 66 (0, 0)) (by (with_reducible repeat (first | refine blk_drewN ?_ _ | refine blk_drew ?_ | refine blk_alloc ?_ _)); refine blk_put (cs := #[.int .i32 a3, .int .i64 a5, .int .i64 0]) ?_ 2 _ rfl; (with_reducible repeat (first | refine blk_drewN ?_ _ | refine blk_drew ?_ | refine blk_alloc ?_ _)); refine blk_put (cs := #[.int .i32 a3, .int .i64 0, .int .i64 0]) ?_ 1 _ rfl; (with_reducible repeat (first | refine blk_drewN ?_ _ | refine blk_drew ?_ | refine blk_alloc ?_ _)); refine blk_put (cs := #[.int .i32 0, .int .i64 0, .int .i64 0]) ?_ 0 _ rfl; (with_reducible repeat (first | refine blk_drewN ?_ _ | refine blk_drew ?_ | refine blk_alloc ?_ _)); exact a2.out) k_ hk)); (case aO => exact (by (with_reducible repeat (first | apply Kd.R_alloc | apply Kd.R_drewN | apply Kd.R_drew)); exact Kd.R_mono (Kd.R_far (p := ⟨a1, 2, none⟩) (Kd.R_far (p := ⟨a1, 1, none⟩) (Kd.R_far (p := ⟨a1, 0, none⟩) (Kd.R_mono a7.out (fun k_ hk => (⟨hk, hk.2⟩ : _ ∧ k_ ≠ a1))) (fun _ hk => hk.2) (.int .i32 a3)) (fun _ hk => hk.2) (.int .i64 a5)) (fun _ hk => hk.2) (.int .i64 a4)) (fun _ hk => hk.1.2))); (case aS => exact (below_size (by repeat (first | (with_reducible first | exact HB.out | apply below_alloc | apply pw_below_drewN | apply below_drew1 | refine below_set ?_ b3.out) | exact HB.out)))); (case aL => have := d1.out; omega); intro e7 w8 ho hb hg hat; rw [← b8.out] at ho; have b0 := Aside0.mk (blk_grown (g := a1) (o := .cells #[.int .i32 a3, .int .i64 a5, .int .i64 a4] 66 (0, 0)) (by (with_reducible repeat (first | refine blk_drewN ?_ _ | refine blk_drew ?_ | refine blk_alloc ?_ _)); refine blk_put (cs := #[.int .i32 a3, .int .i64 a5, .int .i64 0]) ?_ 2 _ rfl; (with_reducible repeat (first | refine blk_drewN ?_ _ | refine blk_drew ?_ | refine blk_alloc ?_ _)); refine blk_put (cs := #[.int .i32 a3, .int .i64 0, .int .i64 0]) ?_ 1 _ rfl; (with_reducible repeat (first | refine blk_drewN ?_ _ | refine blk_drew ?_ | refine blk_alloc ?_ _)); refine blk_put (cs := #[.int .i32 0, .int .i64 0, .int .i64 0]) ?_ 0 _ rfl; (with_reducible repeat (first | refine blk_drewN ?_ _ | refine blk_drew ?_ | refine blk_alloc ?_ _)); exact a2.out) hg (Kd.R_away a7.out (fun _ hk => hk.2))); have b1 := Aside0.mk (hb); have b5 := Aside0.mk (ho); clear a2; clear HB; clear a7; have a2 := b0; have HB := b1; have b9 := b5; clear b0 b1 b5; clear ho hb hg hat; have e0 : w8.cell? ⟨a1, 0, none⟩ = some (.int .i32 a3) := (blk_cell a2.out 0).trans rfl; have e1 : w8.cell? ⟨a1, 1, none⟩ = some (.int .i64 a5) := (blk_cell a2.out 1).trans rfl; have e2 : w8.cell? ⟨a1, 2, none⟩ = some (.int .i64 a4) := (blk_cell a2.out 2).trans rfl; have e3 := blk_frozen a2.out 0; have e4 := blk_frozen a2.out 1; have e5 := blk_frozen a2.out 2))
     go_roundg k1
     case measure => have := c6.out; omega
     case rel => exact ⟨(b6), (wrap64 (a6 + a4)), (by first | rfl | (simp; done) | (simp [*]; done)), H', ⟨by have := c6.out; omega⟩, ⟨by (with_reducible repeat (first | apply Kd.R_alloc | apply Kd.R_drewN | apply Kd.R_drew)); exact Kd.R_mono b9.out (fun _ hk => trivial)⟩, ⟨by repeat (first | (with_reducible first | exact HB.out | apply below_alloc | apply pw_below_drewN | apply below_drew1 | refine below_set ?_ b3.out) | exact HB.out)⟩⟩
    ·rw [if_neg c4] at H
     exact absurd H (by simp)
   ·rw [if_neg c2] at H
    have d0 : decide (a6 < (l0.length : Int)) = false := decide_eq_false c2
    clear c2
    obtain rfl := Option.some.inj H
    go_wp2
    go_ret
    exact ⟨_, by first | rfl | (simp [errW_none, errW_some] <;> rfl) | (simp [*, errW_none, errW_some] <;> rfl), by (with_reducible repeat (first | apply Kd.R_alloc | apply Kd.R_drewN | apply Kd.R_drew)); exact a7.out, by repeat (first | (with_reducible first | exact HB.out | apply below_alloc | apply pw_below_drewN | apply below_drew1) | exact HB.out)⟩
end Go.Proofs.Ytoefjhdcipgacaa.PA
end
section
namespace Go.Proofs.Ytoefjhdcipgacaa.PA
open Go.RowKit Go.Proofs.YtoefjhdcipgacaaW.PrintWords Go.Proofs.YtoefjhdcipgacaaW.PrintLast Go.Proofs.YtoefjhdcipgacaaW.PrintMore
attribute [local go_sem] max2_int min2_int max_two min_two max_three min_three max_four min_four   -- for this text's walks alone
set_option linter.unusedVariables false
set_option linter.unusedSimpArgs false
def scal_need.j0 : Nat → Int → Bool → Option (Int × Int × Int)
 | 0, _, _ => none
 | k + 1, x0, x8 => if x8 = true then (some (0, 0, 0)) else (if x0 < 224 then (some (2, 128, 191)) else (if x0 = 224 then (some (3, 160, 191)) else (if x0 = 237 then (some (3, 128, 159)) else (if x0 < 240 then (some (3, 128, 191)) else (if x0 = 240 then (some (4, 144, 191)) else (if x0 = 244 then (some (4, 128, 143)) else (some (4, 128, 191))))))))
def scal_need.f (k : Nat) (a0 : Int) : Option (Int × Int × Int) := if a0 < 128 then (some (1, 0, 0)) else (if a0 < 194 then (scal_need.j0 k a0 true) else (scal_need.j0 k a0 (decide (a0 > 244))))
set_option maxHeartbeats 8000000 in
set_option maxRecDepth 100000 in
theorem scal_need.calls (k : Nat) (a0 : Int) (r1 : Int) (r2 : Int) (r3 : Int) (w : World) (h : scal_need.f k a0 = some (r1, r2, r3)) :
  Calls Try.prog 63 #[.int .u8 a0] w fun e w' => e = .returned (.tuple #[.int .i64 r1, .int .u8 r2, .int .u8 r3]) ∧ Drawn0 w w' := by
 have H : (if a0 < 128 then (some (1, 0, 0)) else (if a0 < 194 then (scal_need.j0 k a0 true) else (scal_need.j0 k a0 (decide (a0 > 244))))) = some (r1, r2, r3) := h
 clear h
 by_cases c2 : a0 < 128
 ·rw [if_pos c2] at H
  have a6 : decide (a0 < 128) = true := decide_eq_true c2
  clear c2
  simp only [Option.some.injEq, Prod.mk.injEq] at H
  obtain ⟨rfl, rfl, rfl⟩ := H
  go_enter Try.func63, Try.ntmps63
  go_wp2
  go_ret3
  exact ⟨by first | rfl | (simp; done) | (simp [*]; done), by repeat (first | exact Drawn0.refl _ | apply Drawn0.step)⟩
 ·rw [if_neg c2] at H
  have a6 : decide (a0 < 128) = false := decide_eq_false c2
  clear c2
  have a7 := Aside0.mk H
  clear H
  go_enter Try.func63, Try.ntmps63
  go_upto_region 3 with (fail)
  go_cut [8] (fun v8 wc => ∃ (kq : Nat) (a4 : Bool), v8 = .bool a4 ∧ Aside0 (scal_need.j0 kq a0 a4 = some (r1, r2, r3)) ∧ Aside0 (kq ≤ k) ∧ Drawn0 w wc)
  case first =>
   have H := a7.out
   clear a7
   by_cases c4 : a0 < 194
   ·rw [if_pos c4] at H
    have a1 : decide (a0 < 194) = true := decide_eq_true c4
    clear c4
    (first | rw [a1] | (simp only [i64_w, i32_w]; rw [a1]) | skip)
    have H' := Aside0.mk H
    clear H
    go_wp2
    go_meet
    case rel => exact ⟨_, (true), (by first | rfl | (simp; done) | (simp [*]; done)), H', ⟨by first | omega | exact Nat.le_refl _⟩, by repeat (first | exact Drawn0.refl _ | apply Drawn0.step)⟩
   ·rw [if_neg c4] at H
    have a1 : decide (a0 < 194) = false := decide_eq_false c4
    clear c4
    (first | rw [a1] | (simp only [i64_w, i32_w]; rw [a1]) | skip)
    have H' := Aside0.mk H
    clear H
    go_wp2
    go_meet
    case rel => exact ⟨_, (decide (a0 > 244)), (by first | rfl | (simp; done) | (simp [*]; done)), H', ⟨by first | omega | exact Nat.le_refl _⟩, by repeat (first | exact Drawn0.refl _ | apply Drawn0.step)⟩
  case rest =>
   clear a7
   try clear c2
   try clear a6
   try clear p2
   try clear c4
   try clear a1
   obtain ⟨kq, a4, rfl, HA, b8, ⟨b9, rfl⟩⟩ := hcut
   cases kq with
   | zero => exact absurd HA.out (by simp [scal_need.j0])
   | succ c0 =>
    have H := HA.out
    clear HA
    simp only [scal_need.j0] at H
    by_cases c5 : a4 = true
    ·subst c5
     have H1 : (some (0, 0, 0)) = some (r1, r2, r3) := by rw [if_pos rfl] at H; exact H
     clear H
     have H := H1
     clear H1
     simp only [Option.some.injEq, Prod.mk.injEq] at H
     obtain ⟨rfl, rfl, rfl⟩ := H
     go_wp2
     go_ret3
     exact ⟨by first | rfl | (simp; done) | (simp [*]; done), by repeat (first | exact Drawn0.refl _ | apply Drawn0.step)⟩
    ·replace c5 := Bool.eq_false_iff.mpr c5
     subst c5
     have H1 : (if a0 < 224 then (some (2, 128, 191)) else (if a0 = 224 then (some (3, 160, 191)) else (if a0 = 237 then (some (3, 128, 159)) else (if a0 < 240 then (some (3, 128, 191)) else (if a0 = 240 then (some (4, 144, 191)) else (if a0 = 244 then (some (4, 128, 143)) else (some (4, 128, 191)))))))) = some (r1, r2, r3) := by rw [if_neg (show ¬ (false = true) by decide)] at H; exact H
     clear H
     have H := H1
     clear H1
     by_cases c6 : a0 < 224
     ·rw [if_pos c6] at H
      have b2 : decide (a0 < 224) = true := decide_eq_true c6
      clear c6
      simp only [Option.some.injEq, Prod.mk.injEq] at H
      obtain ⟨rfl, rfl, rfl⟩ := H
      go_wp2
      go_ret3
      exact ⟨by first | rfl | (simp; done) | (simp [*]; done), by repeat (first | exact Drawn0.refl _ | apply Drawn0.step)⟩
     ·rw [if_neg c6] at H
      have b2 : decide (a0 < 224) = false := decide_eq_false c6
      clear c6
      by_cases c7 : a0 = 224
      ·rw [if_pos c7] at H
       have b3 : (a0 == 224) = true := beq_iff_eq.mpr c7
       have b4 : (a0 != 224) = false := bne_eq_false_iff_eq.mpr c7
       clear c7
       simp only [Option.some.injEq, Prod.mk.injEq] at H
       obtain ⟨rfl, rfl, rfl⟩ := H
       go_wp2
       go_ret3
       exact ⟨by first | rfl | (simp; done) | (simp [*]; done), by repeat (first | exact Drawn0.refl _ | apply Drawn0.step)⟩
      ·rw [if_neg c7] at H
       have b3 : (a0 == 224) = false := beq_eq_false_iff_ne.mpr c7
       have b4 : (a0 != 224) = true := bne_iff_ne.mpr c7
       by_cases c8 : a0 = 237
       ·rw [if_pos c8] at H
        have b5 : (a0 == 237) = true := beq_iff_eq.mpr c8
        have b6 : (a0 != 237) = false := bne_eq_false_iff_eq.mpr c8
        clear c8
        simp only [Option.some.injEq, Prod.mk.injEq] at H
        obtain ⟨rfl, rfl, rfl⟩ := H
        go_wp2
        go_ret3
        exact ⟨by first | rfl | (simp; done) | (simp [*]; done), by repeat (first | exact Drawn0.refl _ | apply Drawn0.step)⟩
       ·rw [if_neg c8] at H
        have b5 : (a0 == 237) = false := beq_eq_false_iff_ne.mpr c8
        have b6 : (a0 != 237) = true := bne_iff_ne.mpr c8
        by_cases c9 : a0 < 240
        ·rw [if_pos c9] at H
         have b7 : decide (a0 < 240) = true := decide_eq_true c9
         clear c9
         simp only [Option.some.injEq, Prod.mk.injEq] at H
         obtain ⟨rfl, rfl, rfl⟩ := H
         go_wp2
         go_ret3
         exact ⟨by first | rfl | (simp; done) | (simp [*]; done), by repeat (first | exact Drawn0.refl _ | apply Drawn0.step)⟩
        ·rw [if_neg c9] at H
         have b7 : decide (a0 < 240) = false := decide_eq_false c9
         clear c9
         by_cases a2 : a0 = 240
         ·rw [if_pos a2] at H
          have a8 : (a0 == 240) = true := beq_iff_eq.mpr a2
          have a9 : (a0 != 240) = false := bne_eq_false_iff_eq.mpr a2
          clear a2
          simp only [Option.some.injEq, Prod.mk.injEq] at H
          obtain ⟨rfl, rfl, rfl⟩ := H
          go_wp2
          go_ret3
          exact ⟨by first | rfl | (simp; done) | (simp [*]; done), by repeat (first | exact Drawn0.refl _ | apply Drawn0.step)⟩
         ·rw [if_neg a2] at H
          have a8 : (a0 == 240) = false := beq_eq_false_iff_ne.mpr a2
          have a9 : (a0 != 240) = true := bne_iff_ne.mpr a2
          by_cases a3 : a0 = 244
          ·rw [if_pos a3] at H
           have b0 : (a0 == 244) = true := beq_iff_eq.mpr a3
           have b1 : (a0 != 244) = false := bne_eq_false_iff_eq.mpr a3
           clear a3
           simp only [Option.some.injEq, Prod.mk.injEq] at H
           obtain ⟨rfl, rfl, rfl⟩ := H
           go_wp2
           go_ret3
           exact ⟨by first | rfl | (simp; done) | (simp [*]; done), by repeat (first | exact Drawn0.refl _ | apply Drawn0.step)⟩
          ·rw [if_neg a3] at H
           have b0 : (a0 == 244) = false := beq_eq_false_iff_ne.mpr a3
           have b1 : (a0 != 244) = true := bne_iff_ne.mpr a3
           simp only [Option.some.injEq, Prod.mk.injEq] at H
           obtain ⟨rfl, rfl, rfl⟩ := H
           go_wp2
           go_ret3
           exact ⟨by first | rfl | (simp; done) | (simp [*]; done), by repeat (first | exact Drawn0.refl _ | apply Drawn0.step)⟩
end Go.Proofs.Ytoefjhdcipgacaa.PA
end
section
namespace Go.Proofs.Ytoefjhdcipgacaa.PA
open Go.RowKit Go.Proofs.YtoefjhdcipgacaaW.PrintWords Go.Proofs.YtoefjhdcipgacaaW.PrintLast Go.Proofs.YtoefjhdcipgacaaW.PrintMore
attribute [local go_sem] max2_int min2_int max_two min_two max_three min_three max_four min_four   -- for this text's walks alone
set_option linter.unusedVariables false
set_option linter.unusedSimpArgs false
mutual
def scal_One.j0 : Nat → List Int → Int → Bool → Option (Int × Int × Int)
 | 0, _, _, _ => none
 | k + 1, x0, x1, w5 => if w5 = true then (some (0, 0, 0)) else (if 0 ≤ x1 then (if x1 < (x0.length : Int) then ((scal_need.f k (rd x0 x1)).bind fun d1 => (if d1.1 < 2 then (if d1.1 = 1 then (some (wrap32 (rd x0 x1), x1, 1)) else (some (65533, x1, 1))) else (if 0 ≤ d1.1 then (scal_One.l0 k x0 x1 d1.1 d1.2.1 d1.2.2 (Go.bits .and .i32 (wrap32 (rd x0 x1)) (shr .i32 127 d1.1)) 1 65533 x1 1) else (none)))) else (none)) else (none))
def scal_One.l0 : Nat → List Int → Int → Int → Int → Int → Int → Int → Int → Int → Int → Option (Int × Int × Int)
 | 0, _, _, _, _, _, _, _, _, _, _ => none
 | k + 1, x0, x1, x5, x6, x7, x9, g7, f7, f0, f8 => if g7 < x5 then (if (wrap64 (x1 + g7)) ≥ (x0.length : Int) then (some (f7, f0, f8)) else (if 0 ≤ (wrap64 (x1 + g7)) then (if (wrap64 (x1 + g7)) < (x0.length : Int) then (if (rd x0 (wrap64 (x1 + g7))) < x6 then (some (f7, f0, f8)) else (if (rd x0 (wrap64 (x1 + g7))) > x7 then (some (f7, f0, f8)) else (scal_One.l0 k x0 x1 x5 128 191 (Go.bits .or .i32 (wrap32 (x9 * 64)) (wrap32 (Go.bits .and .u8 (rd x0 (wrap64 (x1 + g7))) 63))) (wrap64 (g7 + 1)) f7 f0 (wrap64 (g7 + 1))))) else (none)) else (none))) else (some (x9, f0, f8))
end
def scal_One.f (k : Nat) (l0 : List Int) (a1 : Int) : Option (Int × Int × Int) := if a1 < 0 then (scal_One.j0 k l0 a1 true) else (scal_One.j0 k l0 a1 (decide (a1 ≥ (l0.length : Int))))
set_option maxHeartbeats 8000000 in
set_option maxRecDepth 100000 in
theorem scal_One.calls (k : Nat) (A0 : Option Addr) (c0 : Nat) (l0 : List Int) (a1 : Int) (r1 : Int) (r2 : Int) (r3 : Int) (w : World) (p1 : Kd.C (Kd.int .u8) w A0 l0.length l0) (p4 : l0.length ≤ c0) (h : scal_One.f k l0 a1 = some (r1, r2, r3)) :
  Calls Try.prog 60 #[.slice A0 l0.length c0, .int .i64 a1] w fun e w' => e = .returned (.agg #[.int .i32 r1, .int .i64 r2, .int .i64 r3]) ∧ Below w.heap.size w w' := by
 have hu66 := Try.underlying66
 have f1 := Aside0.mk p1
 have A5 := Aside0.mk p4
 clear p1 p4
 have HB := Aside0.mk (Below.refl w.heap.size w)
 have H : (if a1 < 0 then (scal_One.j0 k l0 a1 true) else (scal_One.j0 k l0 a1 (decide (a1 ≥ (l0.length : Int))))) = some (r1, r2, r3) := h
 clear h
 have n6 := Aside0.mk H
 clear H
 go_enter Try.func60, Try.ntmps60
 go_upto_region 1 with (first | ((with_reducible refine gate_dst (N := 4) rfl ?_); (try (refine gate_guard (by rfl) ?_; dsimp only)); refine box_event ?hg (N := 4) ?hd (cs := #[.int .i32 0, .int .i64 0, .int .i64 0]) (t := 66) ?hr ?_; (case hd => rfl); (case hg => rfl); (case hr => first | (go_simp; done) | (go_simp; rfl)); intro a6 hg w4 hbox hb; have d6 := Aside0.mk (below_step (HB.out) hb); have d7 := Aside0.mk (hbox); have d8 := Aside0.mk ((by rw [hg]; exact (below_size (HB.out)) : w.heap.size ≤ a6)); have d9 := Aside0.mk ((by rw [hg]; exact (below_size (HB.out)) : w.heap.size ≤ a6)); clear HB; have HB := d6; have a3 := d7; have w9 := d8; have b3 := d9; clear d6 d7 d8 d9; clear hb hbox hg))
 (try simp only [Act.put, List.setIfInBounds_toArray, List.set_cons_zero, List.set_cons_succ])
 go_cut [18] (fun w6 wc => ∃ (kq : Nat) (h8 : Bool), w6 = .bool h8 ∧ Aside0 (scal_One.j0 kq l0 a1 h8 = some (r1, r2, r3)) ∧ Aside0 (kq ≤ k) ∧ Aside0 (wc.heap[a6]? = some (.cells #[.int .i32 0, .int .i64 0, .int .i64 0] 66 (0, 0))) ∧ Aside0 (Below w.heap.size w wc))
 case first =>
  have H := n6.out
  clear n6
  by_cases c5 : a1 < 0
  ·rw [if_pos c5] at H
   have g2 : decide (a1 < 0) = true := decide_eq_true c5
   clear c5
   (first | rw [g2] | (simp only [i64_w, i32_w]; rw [g2]) | skip)
   have H' := Aside0.mk H
   clear H
   go_wp2
   repeat (go_quiet (fail); try go_wp2)
   go_meet
   case rel => exact ⟨_, (true), (rfl), H', ⟨by omega⟩, ⟨by exact a3.out⟩, ⟨HB.out⟩⟩
  ·rw [if_neg c5] at H
   have g2 : decide (a1 < 0) = false := decide_eq_false c5
   clear c5
   (first | rw [g2] | (simp only [i64_w, i32_w]; rw [g2]) | skip)
   have H' := Aside0.mk H
   clear H
   go_wp2
   repeat (go_quiet (fail); try go_wp2)
   go_meet
   case rel => exact ⟨_, (decide (a1 ≥ (l0.length : Int))), (rfl), H', ⟨by omega⟩, ⟨by exact a3.out⟩, ⟨HB.out⟩⟩
 case rest =>
  clear n6
  try clear p2
  try clear c5
  try clear g2
  obtain ⟨kq, h8, rfl, HA, p5, a3, HB⟩ := hcut
  cases kq with
  | zero => exact absurd HA.out (by simp [scal_One.j0])
  | succ f3 =>
   have H := HA.out
   clear HA
   simp only [scal_One.j0] at H
   by_cases c6 : h8 = true
   ·subst c6
    have H1 : (some (0, 0, 0)) = some (r1, r2, r3) := by rw [if_pos rfl] at H; exact H
    clear H
    have H := H1
    clear H1
    simp only [Option.some.injEq, Prod.mk.injEq] at H
    obtain ⟨rfl, rfl, rfl⟩ := H
    have n7 : wc.cell? ⟨a6, 0, none⟩ = some (.int .i32 0) := (blk_cell a3.out 0).trans rfl
    have n8 : wc.cell? ⟨a6, 1, none⟩ = some (.int .i64 0) := (blk_cell a3.out 1).trans rfl
    have n9 : wc.cell? ⟨a6, 2, none⟩ = some (.int .i64 0) := (blk_cell a3.out 2).trans rfl
    have o0 := blk_frozen a3.out 0
    have o1 := blk_frozen a3.out 1
    have o2 := blk_frozen a3.out 2
    go_wp2
    repeat (go_quiet (fail); try go_wp2)
    refine bodyPost_ret (results_cell_row rfl _ _ a6 66 #[.int .i32 0, .int .i64 0, .int .i64 0] (0, 0) _ rfl (by refine blk_put (cs := #[.int .i32 0, .int .i64 0, .int .i64 0]) ?_ 2 _ rfl; refine blk_put (cs := #[.int .i32 0, .int .i64 0, .int .i64 0]) ?_ 1 _ rfl; refine blk_put (cs := #[.int .i32 0, .int .i64 0, .int .i64 0]) ?_ 0 _ rfl; exact a3.out) Try.underlying66 rfl (by kernel_rfl)) rfl ?_
    exact ⟨by first | rfl | (simp [errW_none, errW_some] <;> rfl) | (simp [*, errW_none, errW_some] <;> rfl), by repeat (first | (with_reducible first | exact HB.out | apply below_alloc | apply pw_below_drewN | apply below_drew1 | refine below_set ?_ b3.out) | exact HB.out)⟩
   ·replace c6 := Bool.eq_false_iff.mpr c6
    subst c6
    have H1 : (if 0 ≤ a1 then (if a1 < (l0.length : Int) then ((scal_need.f f3 (rd l0 a1)).bind fun d1 => (if d1.1 < 2 then (if d1.1 = 1 then (some (wrap32 (rd l0 a1), a1, 1)) else (some (65533, a1, 1))) else (if 0 ≤ d1.1 then (scal_One.l0 f3 l0 a1 d1.1 d1.2.1 d1.2.2 (Go.bits .and .i32 (wrap32 (rd l0 a1)) (shr .i32 127 d1.1)) 1 65533 a1 1) else (none)))) else (none)) else (none)) = some (r1, r2, r3) := by rw [if_neg (show ¬ (false = true) by decide)] at H; exact H
    clear H
    have H := H1
    clear H1
    by_cases c8 : 0 ≤ a1
    ·rw [if_pos c8] at H
     have p7 : decide (0 ≤ a1) = true := decide_eq_true c8
     clear c8
     by_cases c9 : a1 < (l0.length : Int)
     ·rw [if_pos c9] at H
      have p8 : decide (a1 < (l0.length : Int)) = true := decide_eq_true c9
      clear c9
      replace H := Option.bind_eq_some_iff.mp H
      obtain ⟨⟨b5, f4, f5⟩, o3, H⟩ := H
      replace H : (if b5 < 2 then (if b5 = 1 then (some (wrap32 (rd l0 a1), a1, 1)) else (some (65533, a1, 1))) else (if 0 ≤ b5 then (scal_One.l0 f3 l0 a1 b5 f4 f5 (Go.bits .and .i32 (wrap32 (rd l0 a1)) (shr .i32 127 b5)) 1 65533 a1 1) else (none))) = some (r1, r2, r3) := H
      have i6 := Aside0.mk o3
      clear o3
      by_cases i1 : b5 < 2
      ·rw [if_pos i1] at H
       have k3 : decide (b5 < 2) = true := decide_eq_true i1
       clear i1
       by_cases h7 : b5 = 1
       ·rw [if_pos h7] at H
        have k4 : (b5 == 1) = true := beq_iff_eq.mpr h7
        have k5 : (b5 != 1) = false := bne_eq_false_iff_eq.mpr h7
        clear h7
        simp only [Option.some.injEq, Prod.mk.injEq] at H
        obtain ⟨rfl, rfl, rfl⟩ := H
        have e0 : 0 ≤ (a1 : Int) := of_decide_eq_true (by assumption)
        have e1 : a1 < (l0.length : Int) := of_decide_eq_true (by assumption)
        obtain ⟨b4, i2, c4⟩ := Kd.at_int f1.out a1 e0 e1
        cases i2
        replace c4 := (HB.out.cell (World.block_lt_of_cell? w _ c4)).trans c4
        replace e0 := eq_true e0
        replace e1 := eq_true e1
        go_wp2_with (first | (go_at_call 63; (with_reducible refine (scal_need.calls f3 (rd l0 a1) b5 f4 f5 _ i6.out).mono ?_); rintro e w' ⟨rfl, ⟨nd, rfl⟩⟩; (try first | exact ⟨rfl, _, World.drewN_drewN _ _ _⟩ | exact ⟨rfl, _, Eq.trans (World.drewN_drewN _ _ _) (congrArg (World.drewN _) (Nat.add_assoc _ _ _))⟩)) | ((with_reducible refine gate_dst (N := 8) rfl ?_); (try (refine gate_guard (by rfl) ?_; dsimp only)); refine box_event ?hg (N := 8) ?hd (cs := #[.int .i32 0, .int .i64 0, .int .i64 0]) (t := 66) ?hr ?_; (case hd => rfl); (case hg => rfl); (case hr => first | (go_simp; done) | (go_simp; rfl)); intro a2 hg i3 hbox hb; have d6 := Aside0.mk (blk_below (g := a6) (o := .cells #[.int .i32 0, .int .i64 0, .int .i64 0] 66 (0, 0)) (by refine blk_drewN ?_ _; exact a3.out) hb); have d7 := Aside0.mk (below_step (by repeat (first | (with_reducible first | exact HB.out | apply below_alloc | apply pw_below_drewN | apply below_drew1 | refine below_set ?_ b3.out) | exact HB.out)) hb); have d8 := Aside0.mk (hbox); have d9 := Aside0.mk ((by rw [hg]; exact (below_size (by repeat (first | (with_reducible first | exact HB.out | apply below_alloc | apply pw_below_drewN | apply below_drew1 | refine below_set ?_ b3.out) | exact HB.out))) : w.heap.size ≤ a2)); have e6 := Aside0.mk ((by rw [hg]; exact (below_size (by repeat (first | (with_reducible first | exact HB.out | apply below_alloc | apply pw_below_drewN | apply below_drew1 | refine below_set ?_ b3.out) | exact HB.out))) : w.heap.size ≤ a2)); have e7 := Aside0.mk ((by rw [hg]; exact Nat.ne_of_lt (blk_lt (g := a6) (o := .cells #[.int .i32 0, .int .i64 0, .int .i64 0] 66 (0, 0)) (by refine blk_drewN ?_ _; exact a3.out)) : a6 ≠ a2)); have e8 := Aside0.mk ((by rw [hg]; exact Nat.ne_of_gt (blk_lt (g := a6) (o := .cells #[.int .i32 0, .int .i64 0, .int .i64 0] 66 (0, 0)) (by refine blk_drewN ?_ _; exact a3.out)) : a2 ≠ a6)); clear a3; clear HB; have a3 := d6; have HB := d7; have a4 := d8; have c7 := d9; have d3 := e6; have a7 := e7; have b2 := e8; clear d6 d7 d8 d9 e6 e7 e8; clear hb hbox hg; have x2 := b2.out; have x3 := a7.out; have l2 : i3.cell? ⟨a2, 0, none⟩ = some (.int .i32 0) := (blk_cell a4.out 0).trans rfl; have l3 : i3.cell? ⟨a2, 1, none⟩ = some (.int .i64 0) := (blk_cell a4.out 1).trans rfl; have l4 : i3.cell? ⟨a2, 2, none⟩ = some (.int .i64 0) := (blk_cell a4.out 2).trans rfl; have l5 := blk_frozen a4.out 0; have l6 := blk_frozen a4.out 1; have l7 := blk_frozen a4.out 2; have j5 : 0 ≤ (a1 : Int) := of_decide_eq_true (by first | (with_reducible assumption) | assumption); have j6 : a1 < (l0.length : Int) := of_decide_eq_true (by first | (with_reducible assumption) | assumption); obtain ⟨o4, p9, b7⟩ := Kd.at_int f1.out a1 j5 j6; obtain rfl : b4 = o4 := (by injection p9); have f9 : b4.block ≠ a2 := Nat.ne_of_lt (Nat.lt_of_lt_of_le (by have := World.block_lt_of_cell? _ _ b7; first | rwa [add_block] at this | exact this) c7.out); have g0 : b4.block ≠ a2 := Nat.ne_of_lt (Nat.lt_of_lt_of_le (by have := World.block_lt_of_cell? _ _ b7; first | rwa [add_block] at this | exact this) c7.out); have g1 : b4.block ≠ a2 := Nat.ne_of_lt (Nat.lt_of_lt_of_le (by have := World.block_lt_of_cell? _ _ b7; first | rwa [add_block] at this | exact this) c7.out); replace b7 := (HB.out.cell (World.block_lt_of_cell? w _ b7)).trans b7; replace b7 := (cell_far (p := ⟨a2, 0, none⟩) (by first | (rw [add_block]; exact f9) | (show (Addr.add _ _).block ≠ _; rw [add_block]; exact f9) | exact f9) (.int .i32 65533)).trans b7; replace b7 := (cell_far (p := ⟨a2, 1, none⟩) (by first | (rw [add_block]; exact g0) | (show (Addr.add _ _).block ≠ _; rw [add_block]; exact g0) | exact g0) (.int .i64 a1)).trans b7; replace b7 := (cell_far (p := ⟨a2, 2, none⟩) (by first | (rw [add_block]; exact g1) | (show (Addr.add _ _).block ≠ _; rw [add_block]; exact g1) | exact g1) (.int .i64 1)).trans b7; (try have q1 := fun (n_ : Nat) => (show (((((i3.drewN n_).setCell ⟨a2, 0, none⟩ (.int .i32 65533)).setCell ⟨a2, 1, none⟩ (.int .i64 a1)).setCell ⟨a2, 2, none⟩ (.int .i64 1))).cell? _ = some _ from b7)); clear f9; clear g0; clear g1; replace j5 := eq_true j5; replace j6 := eq_true j6; have l8 : i3.cell? ⟨a6, 0, none⟩ = some (.int .i32 0) := (blk_cell a3.out 0).trans rfl; have l9 : i3.cell? ⟨a6, 1, none⟩ = some (.int .i64 0) := (blk_cell a3.out 1).trans rfl; have m0 : i3.cell? ⟨a6, 2, none⟩ = some (.int .i64 0) := (blk_cell a3.out 2).trans rfl; have m1 := blk_frozen a3.out 0; have m2 := blk_frozen a3.out 1; have m3 := blk_frozen a3.out 2))
        refine bodyPost_ret (results_cell_row rfl _ _ a6 66 #[.int .i32 (wrap32 (rd l0 a1)), .int .i64 a1, .int .i64 1] (0, 0) _ rfl (by refine blk_put (cs := #[.int .i32 (wrap32 (rd l0 a1)), .int .i64 a1, .int .i64 0]) ?_ 2 _ rfl; refine blk_put (cs := #[.int .i32 (wrap32 (rd l0 a1)), .int .i64 0, .int .i64 0]) ?_ 1 _ rfl; refine blk_put (cs := #[.int .i32 0, .int .i64 0, .int .i64 0]) ?_ 0 _ rfl; refine blk_far ?_ a7.out _; refine blk_far ?_ a7.out _; refine blk_far ?_ a7.out _; refine blk_far ?_ a7.out _; exact a3.out) Try.underlying66 rfl (by kernel_rfl)) rfl ?_
        exact ⟨by first | rfl | (simp [errW_none, errW_some] <;> rfl) | (simp [*, errW_none, errW_some] <;> rfl), by repeat (first | (with_reducible first | exact HB.out | apply below_alloc | apply pw_below_drewN | apply below_drew1 | refine below_set ?_ b3.out | refine below_set ?_ d3.out) | exact HB.out)⟩
       ·rw [if_neg h7] at H
        have k4 : (b5 == 1) = false := beq_eq_false_iff_ne.mpr h7
        have k5 : (b5 != 1) = true := bne_iff_ne.mpr h7
        simp only [Option.some.injEq, Prod.mk.injEq] at H
        obtain ⟨rfl, rfl, rfl⟩ := H
        have e0 : 0 ≤ (a1 : Int) := of_decide_eq_true (by assumption)
        have e1 : a1 < (l0.length : Int) := of_decide_eq_true (by assumption)
        obtain ⟨b4, i2, c4⟩ := Kd.at_int f1.out a1 e0 e1
        cases i2
        replace c4 := (HB.out.cell (World.block_lt_of_cell? w _ c4)).trans c4
        replace e0 := eq_true e0
        replace e1 := eq_true e1
        go_wp2_with (first | (go_at_call 63; (with_reducible refine (scal_need.calls f3 (rd l0 a1) b5 f4 f5 _ i6.out).mono ?_); rintro e w' ⟨rfl, ⟨nd, rfl⟩⟩; (try first | exact ⟨rfl, _, World.drewN_drewN _ _ _⟩ | exact ⟨rfl, _, Eq.trans (World.drewN_drewN _ _ _) (congrArg (World.drewN _) (Nat.add_assoc _ _ _))⟩)) | ((with_reducible refine gate_dst (N := 8) rfl ?_); (try (refine gate_guard (by rfl) ?_; dsimp only)); refine box_event ?hg (N := 8) ?hd (cs := #[.int .i32 0, .int .i64 0, .int .i64 0]) (t := 66) ?hr ?_; (case hd => rfl); (case hg => rfl); (case hr => first | (go_simp; done) | (go_simp; rfl)); intro a2 hg i7 hbox hb; have d6 := Aside0.mk (blk_below (g := a6) (o := .cells #[.int .i32 0, .int .i64 0, .int .i64 0] 66 (0, 0)) (by refine blk_drewN ?_ _; exact a3.out) hb); have d7 := Aside0.mk (below_step (by repeat (first | (with_reducible first | exact HB.out | apply below_alloc | apply pw_below_drewN | apply below_drew1 | refine below_set ?_ b3.out) | exact HB.out)) hb); have d8 := Aside0.mk (hbox); have d9 := Aside0.mk ((by rw [hg]; exact (below_size (by repeat (first | (with_reducible first | exact HB.out | apply below_alloc | apply pw_below_drewN | apply below_drew1 | refine below_set ?_ b3.out) | exact HB.out))) : w.heap.size ≤ a2)); have e6 := Aside0.mk ((by rw [hg]; exact (below_size (by repeat (first | (with_reducible first | exact HB.out | apply below_alloc | apply pw_below_drewN | apply below_drew1 | refine below_set ?_ b3.out) | exact HB.out))) : w.heap.size ≤ a2)); have e7 := Aside0.mk ((by rw [hg]; exact Nat.ne_of_lt (blk_lt (g := a6) (o := .cells #[.int .i32 0, .int .i64 0, .int .i64 0] 66 (0, 0)) (by refine blk_drewN ?_ _; exact a3.out)) : a6 ≠ a2)); have e8 := Aside0.mk ((by rw [hg]; exact Nat.ne_of_gt (blk_lt (g := a6) (o := .cells #[.int .i32 0, .int .i64 0, .int .i64 0] 66 (0, 0)) (by refine blk_drewN ?_ _; exact a3.out)) : a2 ≠ a6)); clear a3; clear HB; have a3 := d6; have HB := d7; have a4 := d8; have c7 := d9; have d3 := e6; have a7 := e7; have b2 := e8; clear d6 d7 d8 d9 e6 e7 e8; clear hb hbox hg; have x4 := b2.out; have x8 := a7.out; have m4 : i7.cell? ⟨a2, 0, none⟩ = some (.int .i32 0) := (blk_cell a4.out 0).trans rfl; have m5 : i7.cell? ⟨a2, 1, none⟩ = some (.int .i64 0) := (blk_cell a4.out 1).trans rfl; have m6 : i7.cell? ⟨a2, 2, none⟩ = some (.int .i64 0) := (blk_cell a4.out 2).trans rfl; have m7 := blk_frozen a4.out 0; have m8 := blk_frozen a4.out 1; have m9 := blk_frozen a4.out 2; have n0 : i7.cell? ⟨a6, 0, none⟩ = some (.int .i32 0) := (blk_cell a3.out 0).trans rfl; have n1 : i7.cell? ⟨a6, 1, none⟩ = some (.int .i64 0) := (blk_cell a3.out 1).trans rfl; have n2 : i7.cell? ⟨a6, 2, none⟩ = some (.int .i64 0) := (blk_cell a3.out 2).trans rfl; have n3 := blk_frozen a3.out 0; have n4 := blk_frozen a3.out 1; have n5 := blk_frozen a3.out 2))
        refine bodyPost_ret (results_cell_row rfl _ _ a6 66 #[.int .i32 65533, .int .i64 a1, .int .i64 1] (0, 0) _ rfl (by refine blk_put (cs := #[.int .i32 65533, .int .i64 a1, .int .i64 0]) ?_ 2 _ rfl; refine blk_put (cs := #[.int .i32 65533, .int .i64 0, .int .i64 0]) ?_ 1 _ rfl; refine blk_put (cs := #[.int .i32 0, .int .i64 0, .int .i64 0]) ?_ 0 _ rfl; refine blk_far ?_ a7.out _; refine blk_far ?_ a7.out _; refine blk_far ?_ a7.out _; exact a3.out) Try.underlying66 rfl (by kernel_rfl)) rfl ?_
        exact ⟨by first | rfl | (simp [errW_none, errW_some] <;> rfl) | (simp [*, errW_none, errW_some] <;> rfl), by repeat (first | (with_reducible first | exact HB.out | apply below_alloc | apply pw_below_drewN | apply below_drew1 | refine below_set ?_ b3.out | refine below_set ?_ d3.out) | exact HB.out)⟩
      ·rw [if_neg i1] at H
       have k3 : decide (b5 < 2) = false := decide_eq_false i1
       clear i1
       by_cases i8 : 0 ≤ b5
       ·rw [if_pos i8] at H
        have o5 := eq_true i8
        have o6 : decide (0 ≤ b5) = true := decide_eq_true i8
        clear i8
        obtain ⟨j7, d5⟩ : ∃ j_ : Int, (shr .i32 127 b5) = j_ := ⟨_, rfl⟩
        replace H : (scal_One.l0 f3 l0 a1 b5 f4 f5 (Go.bits .and .i32 (wrap32 (rd l0 a1)) (j7)) 1 65533 a1 1) = some (r1, r2, r3) := by first | (rw [d5] at H; exact H) | (simp only [d5] at H ⊢; exact H)
        (try rw [d5] at i6)
        have w7 : (127 / 2 ^ min b5.toNat 32) = j7 := d5
        have hji22z : b5 ≤ 32 → (127 / 2 ^ b5.toNat) = j7 := shr_small d5
        have H' := Aside0.mk H
        clear H
        have e0 : 0 ≤ (a1 : Int) := of_decide_eq_true (by assumption)
        have e1 : a1 < (l0.length : Int) := of_decide_eq_true (by assumption)
        obtain ⟨b4, i2, c4⟩ := Kd.at_int f1.out a1 e0 e1
        cases i2
        replace c4 := (HB.out.cell (World.block_lt_of_cell? w _ c4)).trans c4
        replace e0 := eq_true e0
        replace e1 := eq_true e1
        go_wp2_with (first | (go_at_call 63; (with_reducible refine (scal_need.calls f3 (rd l0 a1) b5 f4 f5 _ i6.out).mono ?_); rintro e w' ⟨rfl, ⟨nd, rfl⟩⟩; (try first | exact ⟨rfl, _, World.drewN_drewN _ _ _⟩ | exact ⟨rfl, _, Eq.trans (World.drewN_drewN _ _ _) (congrArg (World.drewN _) (Nat.add_assoc _ _ _))⟩)) | ((with_reducible refine gate_dst (N := 8) rfl ?_); (try (refine gate_guard (by rfl) ?_; dsimp only)); refine box_event ?hg (N := 8) ?hd (cs := #[.int .i32 0, .int .i64 0, .int .i64 0]) (t := 66) ?hr ?_; (case hd => rfl); (case hg => rfl); (case hr => first | (go_simp; done) | (go_simp; rfl)); intro a2 hg e9 hbox hb; have d6 := Aside0.mk (blk_below (g := a6) (o := .cells #[.int .i32 0, .int .i64 0, .int .i64 0] 66 (0, 0)) (by refine blk_drewN ?_ _; exact a3.out) hb); have d7 := Aside0.mk (below_step (by repeat (first | (with_reducible first | exact HB.out | apply below_alloc | apply pw_below_drewN | apply below_drew1 | refine below_set ?_ b3.out) | exact HB.out)) hb); have d8 := Aside0.mk (hbox); have d9 := Aside0.mk ((by rw [hg]; exact (below_size (by repeat (first | (with_reducible first | exact HB.out | apply below_alloc | apply pw_below_drewN | apply below_drew1 | refine below_set ?_ b3.out) | exact HB.out))) : w.heap.size ≤ a2)); have e6 := Aside0.mk ((by rw [hg]; exact (below_size (by repeat (first | (with_reducible first | exact HB.out | apply below_alloc | apply pw_below_drewN | apply below_drew1 | refine below_set ?_ b3.out) | exact HB.out))) : w.heap.size ≤ a2)); have e7 := Aside0.mk ((by rw [hg]; exact Nat.ne_of_lt (blk_lt (g := a6) (o := .cells #[.int .i32 0, .int .i64 0, .int .i64 0] 66 (0, 0)) (by refine blk_drewN ?_ _; exact a3.out)) : a6 ≠ a2)); have e8 := Aside0.mk ((by rw [hg]; exact Nat.ne_of_gt (blk_lt (g := a6) (o := .cells #[.int .i32 0, .int .i64 0, .int .i64 0] 66 (0, 0)) (by refine blk_drewN ?_ _; exact a3.out)) : a2 ≠ a6)); clear a3; clear HB; have a3 := d6; have HB := d7; have a4 := d8; have c7 := d9; have d3 := e6; have a7 := e7; have b2 := e8; clear d6 d7 d8 d9 e6 e7 e8; clear hb hbox hg; have k6 := b2.out; have k7 := a7.out; have h0 : e9.cell? ⟨a2, 0, none⟩ = some (.int .i32 0) := (blk_cell a4.out 0).trans rfl; have h1 : e9.cell? ⟨a2, 1, none⟩ = some (.int .i64 0) := (blk_cell a4.out 1).trans rfl; have h2 : e9.cell? ⟨a2, 2, none⟩ = some (.int .i64 0) := (blk_cell a4.out 2).trans rfl; have h3 := blk_frozen a4.out 0; have h4 := blk_frozen a4.out 1; have h5 := blk_frozen a4.out 2; have e2 : 0 ≤ (a1 : Int) := of_decide_eq_true (by first | (with_reducible assumption) | assumption); have e3 : a1 < (l0.length : Int) := of_decide_eq_true (by first | (with_reducible assumption) | assumption); obtain ⟨g8, i4, a5⟩ := Kd.at_int f1.out a1 e2 e3; obtain rfl : b4 = g8 := (by injection i4); have b8 : b4.block ≠ a2 := Nat.ne_of_lt (Nat.lt_of_lt_of_le (by have := World.block_lt_of_cell? _ _ a5; first | rwa [add_block] at this | exact this) c7.out); have b9 : b4.block ≠ a2 := Nat.ne_of_lt (Nat.lt_of_lt_of_le (by have := World.block_lt_of_cell? _ _ a5; first | rwa [add_block] at this | exact this) c7.out); have c3 : b4.block ≠ a2 := Nat.ne_of_lt (Nat.lt_of_lt_of_le (by have := World.block_lt_of_cell? _ _ a5; first | rwa [add_block] at this | exact this) c7.out); replace a5 := (HB.out.cell (World.block_lt_of_cell? w _ a5)).trans a5; replace a5 := (cell_far (p := ⟨a2, 0, none⟩) (by first | (rw [add_block]; exact b8) | (show (Addr.add _ _).block ≠ _; rw [add_block]; exact b8) | exact b8) (.int .i32 65533)).trans a5; replace a5 := (cell_far (p := ⟨a2, 1, none⟩) (by first | (rw [add_block]; exact b9) | (show (Addr.add _ _).block ≠ _; rw [add_block]; exact b9) | exact b9) (.int .i64 a1)).trans a5; replace a5 := (cell_far (p := ⟨a2, 2, none⟩) (by first | (rw [add_block]; exact c3) | (show (Addr.add _ _).block ≠ _; rw [add_block]; exact c3) | exact c3) (.int .i64 1)).trans a5; (try have i9 := fun (n_ : Nat) => (show (((((e9.drewN n_).setCell ⟨a2, 0, none⟩ (.int .i32 65533)).setCell ⟨a2, 1, none⟩ (.int .i64 a1)).setCell ⟨a2, 2, none⟩ (.int .i64 1))).cell? _ = some _ from a5)); clear b8; clear b9; clear c3; replace e2 := eq_true e2; replace e3 := eq_true e3))
        repeat (go_quiet (first | (go_at_call 63; (with_reducible refine (scal_need.calls f3 (rd l0 a1) b5 f4 f5 _ i6.out).mono ?_); rintro e w' ⟨rfl, ⟨nd, rfl⟩⟩; (try first | exact ⟨rfl, _, World.drewN_drewN _ _ _⟩ | exact ⟨rfl, _, Eq.trans (World.drewN_drewN _ _ _) (congrArg (World.drewN _) (Nat.add_assoc _ _ _))⟩)) | ((with_reducible refine gate_dst (N := 8) rfl ?_); (try (refine gate_guard (by rfl) ?_; dsimp only)); refine box_event ?hg (N := 8) ?hd (cs := #[.int .i32 0, .int .i64 0, .int .i64 0]) (t := 66) ?hr ?_; (case hd => rfl); (case hg => rfl); (case hr => first | (go_simp; done) | (go_simp; rfl)); intro a2 hg e9 hbox hb; have d6 := Aside0.mk (blk_below (g := a6) (o := .cells #[.int .i32 0, .int .i64 0, .int .i64 0] 66 (0, 0)) (by (with_reducible repeat (first | refine blk_drewN ?_ _ | refine blk_drew ?_ | refine blk_alloc ?_ _)); exact a3.out) hb); have d7 := Aside0.mk (below_step (by repeat (first | (with_reducible first | exact HB.out | apply below_alloc | apply pw_below_drewN | apply below_drew1 | refine below_set ?_ b3.out) | exact HB.out)) hb); have d8 := Aside0.mk (hbox); have d9 := Aside0.mk ((by rw [hg]; exact (below_size (by repeat (first | (with_reducible first | exact HB.out | apply below_alloc | apply pw_below_drewN | apply below_drew1 | refine below_set ?_ b3.out) | exact HB.out))) : w.heap.size ≤ a2)); have e6 := Aside0.mk ((by rw [hg]; exact (below_size (by repeat (first | (with_reducible first | exact HB.out | apply below_alloc | apply pw_below_drewN | apply below_drew1 | refine below_set ?_ b3.out) | exact HB.out))) : w.heap.size ≤ a2)); have e7 := Aside0.mk ((by rw [hg]; exact Nat.ne_of_lt (blk_lt (g := a6) (o := .cells #[.int .i32 0, .int .i64 0, .int .i64 0] 66 (0, 0)) (by (with_reducible repeat (first | refine blk_drewN ?_ _ | refine blk_drew ?_ | refine blk_alloc ?_ _)); exact a3.out)) : a6 ≠ a2)); have e8 := Aside0.mk ((by rw [hg]; exact Nat.ne_of_gt (blk_lt (g := a6) (o := .cells #[.int .i32 0, .int .i64 0, .int .i64 0] 66 (0, 0)) (by (with_reducible repeat (first | refine blk_drewN ?_ _ | refine blk_drew ?_ | refine blk_alloc ?_ _)); exact a3.out)) : a2 ≠ a6)); clear a3; clear HB; have a3 := d6; have HB := d7; have a4 := d8; have c7 := d9; have d3 := e6; have a7 := e7; have b2 := e8; clear d6 d7 d8 d9 e6 e7 e8; clear hb hbox hg; have k6 := b2.out; have k7 := a7.out; have h0 : e9.cell? ⟨a2, 0, none⟩ = some (.int .i32 0) := (blk_cell a4.out 0).trans rfl; have h1 : e9.cell? ⟨a2, 1, none⟩ = some (.int .i64 0) := (blk_cell a4.out 1).trans rfl; have h2 : e9.cell? ⟨a2, 2, none⟩ = some (.int .i64 0) := (blk_cell a4.out 2).trans rfl; have h3 := blk_frozen a4.out 0; have h4 := blk_frozen a4.out 1; have h5 := blk_frozen a4.out 2; have e2 : 0 ≤ (a1 : Int) := of_decide_eq_true (by first | (with_reducible assumption) | assumption); have e3 : a1 < (l0.length : Int) := of_decide_eq_true (by first | (with_reducible assumption) | assumption); obtain ⟨g8, i4, a5⟩ := Kd.at_int f1.out a1 e2 e3; obtain rfl : b4 = g8 := (by injection i4); have b8 : b4.block ≠ a2 := Nat.ne_of_lt (Nat.lt_of_lt_of_le (by have := World.block_lt_of_cell? _ _ a5; first | rwa [add_block] at this | exact this) c7.out); have b9 : b4.block ≠ a2 := Nat.ne_of_lt (Nat.lt_of_lt_of_le (by have := World.block_lt_of_cell? _ _ a5; first | rwa [add_block] at this | exact this) c7.out); have c3 : b4.block ≠ a2 := Nat.ne_of_lt (Nat.lt_of_lt_of_le (by have := World.block_lt_of_cell? _ _ a5; first | rwa [add_block] at this | exact this) c7.out); replace a5 := (HB.out.cell (World.block_lt_of_cell? w _ a5)).trans a5; replace a5 := (cell_far (p := ⟨a2, 0, none⟩) (by first | (rw [add_block]; exact b8) | (show (Addr.add _ _).block ≠ _; rw [add_block]; exact b8) | exact b8) (.int .i32 65533)).trans a5; replace a5 := (cell_far (p := ⟨a2, 1, none⟩) (by first | (rw [add_block]; exact b9) | (show (Addr.add _ _).block ≠ _; rw [add_block]; exact b9) | exact b9) (.int .i64 a1)).trans a5; replace a5 := (cell_far (p := ⟨a2, 2, none⟩) (by first | (rw [add_block]; exact c3) | (show (Addr.add _ _).block ≠ _; rw [add_block]; exact c3) | exact c3) (.int .i64 1)).trans a5; (try have i9 := fun (n_ : Nat) => (show (((((e9.drewN n_).setCell ⟨a2, 0, none⟩ (.int .i32 65533)).setCell ⟨a2, 1, none⟩ (.int .i64 a1)).setCell ⟨a2, 2, none⟩ (.int .i64 1))).cell? _ = some _ from a5)); clear b8; clear b9; clear c3; replace e2 := eq_true e2; replace e3 := eq_true e3)); try go_wp2_with (first | (go_at_call 63; (with_reducible refine (scal_need.calls f3 (rd l0 a1) b5 f4 f5 _ i6.out).mono ?_); rintro e w' ⟨rfl, ⟨nd, rfl⟩⟩; (try first | exact ⟨rfl, _, World.drewN_drewN _ _ _⟩ | exact ⟨rfl, _, Eq.trans (World.drewN_drewN _ _ _) (congrArg (World.drewN _) (Nat.add_assoc _ _ _))⟩)) | ((with_reducible refine gate_dst (N := 8) rfl ?_); (try (refine gate_guard (by rfl) ?_; dsimp only)); refine box_event ?hg (N := 8) ?hd (cs := #[.int .i32 0, .int .i64 0, .int .i64 0]) (t := 66) ?hr ?_; (case hd => rfl); (case hg => rfl); (case hr => first | (go_simp; done) | (go_simp; rfl)); intro a2 hg e9 hbox hb; have d6 := Aside0.mk (blk_below (g := a6) (o := .cells #[.int .i32 0, .int .i64 0, .int .i64 0] 66 (0, 0)) (by (with_reducible repeat (first | refine blk_drewN ?_ _ | refine blk_drew ?_ | refine blk_alloc ?_ _)); exact a3.out) hb); have d7 := Aside0.mk (below_step (by repeat (first | (with_reducible first | exact HB.out | apply below_alloc | apply pw_below_drewN | apply below_drew1 | refine below_set ?_ b3.out) | exact HB.out)) hb); have d8 := Aside0.mk (hbox); have d9 := Aside0.mk ((by rw [hg]; exact (below_size (by repeat (first | (with_reducible first | exact HB.out | apply below_alloc | apply pw_below_drewN | apply below_drew1 | refine below_set ?_ b3.out) | exact HB.out))) : w.heap.size ≤ a2)); have e6 := Aside0.mk ((by rw [hg]; exact (below_size (by repeat (first | (with_reducible first | exact HB.out | apply below_alloc | apply pw_below_drewN | apply below_drew1 | refine below_set ?_ b3.out) | exact HB.out))) : w.heap.size ≤ a2)); have e7 := Aside0.mk ((by rw [hg]; exact Nat.ne_of_lt (blk_lt (g := a6) (o := .cells #[.int .i32 0, .int .i64 0, .int .i64 0] 66 (0, 0)) (by (with_reducible repeat (first | refine blk_drewN ?_ _ | refine blk_drew ?_ | refine blk_alloc ?_ _)); exact a3.out)) : a6 ≠ a2)); have e8 := Aside0.mk ((by rw [hg]; exact Nat.ne_of_gt (blk_lt (g := a6) (o := .cells #[.int .i32 0, .int .i64 0, .int .i64 0] 66 (0, 0)) (by (with_reducible repeat (first | refine blk_drewN ?_ _ | refine blk_drew ?_ | refine blk_alloc ?_ _)); exact a3.out)) : a2 ≠ a6)); clear a3; clear HB; have a3 := d6; have HB := d7; have a4 := d8; have c7 := d9; have d3 := e6; have a7 := e7; have b2 := e8; clear d6 d7 d8 d9 e6 e7 e8; clear hb hbox hg; have k6 := b2.out; have k7 := a7.out; have h0 : e9.cell? ⟨a2, 0, none⟩ = some (.int .i32 0) := (blk_cell a4.out 0).trans rfl; have h1 : e9.cell? ⟨a2, 1, none⟩ = some (.int .i64 0) := (blk_cell a4.out 1).trans rfl; have h2 : e9.cell? ⟨a2, 2, none⟩ = some (.int .i64 0) := (blk_cell a4.out 2).trans rfl; have h3 := blk_frozen a4.out 0; have h4 := blk_frozen a4.out 1; have h5 := blk_frozen a4.out 2; have e2 : 0 ≤ (a1 : Int) := of_decide_eq_true (by first | (with_reducible assumption) | assumption); have e3 : a1 < (l0.length : Int) := of_decide_eq_true (by first | (with_reducible assumption) | assumption); obtain ⟨g8, i4, a5⟩ := Kd.at_int f1.out a1 e2 e3; obtain rfl : b4 = g8 := (by injection i4); have b8 : b4.block ≠ a2 := Nat.ne_of_lt (Nat.lt_of_lt_of_le (by have := World.block_lt_of_cell? _ _ a5; first | rwa [add_block] at this | exact this) c7.out); have b9 : b4.block ≠ a2 := Nat.ne_of_lt (Nat.lt_of_lt_of_le (by have := World.block_lt_of_cell? _ _ a5; first | rwa [add_block] at this | exact this) c7.out); have c3 : b4.block ≠ a2 := Nat.ne_of_lt (Nat.lt_of_lt_of_le (by have := World.block_lt_of_cell? _ _ a5; first | rwa [add_block] at this | exact this) c7.out); replace a5 := (HB.out.cell (World.block_lt_of_cell? w _ a5)).trans a5; replace a5 := (cell_far (p := ⟨a2, 0, none⟩) (by first | (rw [add_block]; exact b8) | (show (Addr.add _ _).block ≠ _; rw [add_block]; exact b8) | exact b8) (.int .i32 65533)).trans a5; replace a5 := (cell_far (p := ⟨a2, 1, none⟩) (by first | (rw [add_block]; exact b9) | (show (Addr.add _ _).block ≠ _; rw [add_block]; exact b9) | exact b9) (.int .i64 a1)).trans a5; replace a5 := (cell_far (p := ⟨a2, 2, none⟩) (by first | (rw [add_block]; exact c3) | (show (Addr.add _ _).block ≠ _; rw [add_block]; exact c3) | exact c3) (.int .i64 1)).trans a5; (try have i9 := fun (n_ : Nat) => (show (((((e9.drewN n_).setCell ⟨a2, 0, none⟩ (.int .i32 65533)).setCell ⟨a2, 1, none⟩ (.int .i64 a1)).setCell ⟨a2, 2, none⟩ (.int .i64 1))).cell? _ = some _ from a5)); clear b8; clear b9; clear c3; replace e2 := eq_true e2; replace e3 := eq_true e3)))
        go_loopg [6, 7, 9, 10] f3 (fun kq v6 v7 v9 w8 w' => ∃ (g3 : Int) (g4 : Int) (f6 : Int) (d2 : Int) (b6 : Int) (a9 : Int) (a8 : Int) (b0 : Int), v6 = .int .u8 g3 ∧ v7 = .int .u8 g4 ∧ v9 = .int .i32 f6 ∧ w8 = .int .i64 d2 ∧ Aside0 (scal_One.l0 kq l0 a1 b5 g3 g4 f6 d2 65533 a1 b0 = some (r1, r2, r3)) ∧ Aside0 (kq ≤ f3) ∧ Aside0 (w'.heap[a6]? = some (.cells #[.int .i32 b6, .int .i64 a9, .int .i64 a8] 66 (0, 0))) ∧ Aside0 (w'.heap[a2]? = some (.cells #[.int .i32 65533, .int .i64 a1, .int .i64 b0] 66 (0, 0))) ∧ Aside0 (Below w.heap.size w w'))
        case atStart => exact ⟨(f4), (f5), (Go.bits .and .i32 (wrap32 (rd l0 a1)) (j7)), (1), (0), (0), (0), (1), (rfl), (rfl), (by first | rfl | (simp; done) | (simp only [← d5] <;> (first | rfl | simp)) | (simp [*]; done)), (rfl), H', ⟨Nat.le_refl _⟩, ⟨by refine blk_far ?_ a7.out _; refine blk_far ?_ a7.out _; refine blk_far ?_ a7.out _; exact a3.out⟩, ⟨by refine blk_put (cs := #[.int .i32 65533, .int .i64 a1, .int .i64 0]) ?_ 2 _ rfl; refine blk_put (cs := #[.int .i32 65533, .int .i64 0, .int .i64 0]) ?_ 1 _ rfl; refine blk_put (cs := #[.int .i32 0, .int .i64 0, .int .i64 0]) ?_ 0 _ rfl; exact a4.out⟩, ⟨by repeat (first | (with_reducible first | exact HB.out | apply below_alloc | apply pw_below_drewN | apply below_drew1 | refine below_set ?_ b3.out | refine below_set ?_ d3.out) | exact HB.out)⟩⟩
        case round =>
         clear H'
         try clear c1
         try clear c2
         try clear p2
         try clear q2
         try clear A6
         try clear p3
         try clear c5
         try clear g2
         try clear c6
         try clear c8
         try clear p7
         try clear c9
         try clear p8
         try clear i1
         try clear k3
         try clear h7
         try clear k4
         try clear k5
         try clear A7
         try clear A8
         try clear A9
         try clear B0
         try clear A3
         try clear i8
         try clear o5
         try clear o6
         try clear B1
         try clear B2
         try clear A4
         try clear B3
         try clear l2
         try clear l3
         try clear l4
         try clear l8
         try clear l9
         try clear m0
         try clear m4
         try clear m5
         try clear m6
         try clear n0
         try clear n1
         try clear n2
         try clear h0
         try clear h1
         try clear h2
         try clear n7
         try clear n8
         try clear n9
         try clear l5
         try clear l6
         try clear l7
         try clear m1
         try clear m2
         try clear m3
         try clear m7
         try clear m8
         try clear m9
         try clear n3
         try clear n4
         try clear n5
         try clear h3
         try clear h4
         try clear h5
         try clear o0
         try clear o1
         try clear o2
         try clear c4
         try clear b7
         try clear a5
         try clear p2
         try clear e0
         try clear j5
         try clear e2
         try clear e1
         try clear j6
         try clear e3
         obtain ⟨g3, g4, f6, d2, b6, a9, a8, b0, rfl, rfl, rfl, rfl, HA, p6, a3, a4, HB⟩ := hrel
         cases gk with
         | zero => exact absurd HA.out (by simp [scal_One.l0])
         | succ k2 =>
          have H := HA.out
          clear HA
          simp only [scal_One.l0] at H
          by_cases j1 : d2 < b5
          ·rw [if_pos j1] at H
           have o7 : decide (d2 < b5) = true := decide_eq_true j1
           clear j1
           by_cases j2 : (wrap64 (a1 + d2)) ≥ (l0.length : Int)
           ·rw [if_pos j2] at H
            have k8 : decide ((l0.length : Int) ≤ (wrap64 (a1 + d2))) = true := decide_eq_true j2
            clear j2
            simp only [Option.some.injEq, Prod.mk.injEq] at H
            obtain ⟨rfl, rfl, rfl⟩ := H
            have z0 := b2.out
            have z1 := a7.out
            have q3 : wr.cell? ⟨a2, 0, none⟩ = some (.int .i32 65533) := (blk_cell a4.out 0).trans rfl
            have q4 : wr.cell? ⟨a2, 1, none⟩ = some (.int .i64 a1) := (blk_cell a4.out 1).trans rfl
            have q5 : wr.cell? ⟨a2, 2, none⟩ = some (.int .i64 b0) := (blk_cell a4.out 2).trans rfl
            have q6 := blk_frozen a4.out 0
            have q7 := blk_frozen a4.out 1
            have q8 := blk_frozen a4.out 2
            have q9 : wr.cell? ⟨a6, 0, none⟩ = some (.int .i32 b6) := (blk_cell a3.out 0).trans rfl
            have r0 : wr.cell? ⟨a6, 1, none⟩ = some (.int .i64 a9) := (blk_cell a3.out 1).trans rfl
            have r4 : wr.cell? ⟨a6, 2, none⟩ = some (.int .i64 a8) := (blk_cell a3.out 2).trans rfl
            have r5 := blk_frozen a3.out 0
            have r6 := blk_frozen a3.out 1
            have r7 := blk_frozen a3.out 2
            go_wp2
            repeat (go_quiet (fail); try go_wp2)
            refine bodyPost_ret (results_cell_row rfl _ _ a6 66 #[.int .i32 65533, .int .i64 a1, .int .i64 b0] (0, 0) _ rfl (by refine blk_put (cs := #[.int .i32 65533, .int .i64 a1, .int .i64 a8]) ?_ 2 _ rfl; refine blk_put (cs := #[.int .i32 65533, .int .i64 a9, .int .i64 a8]) ?_ 1 _ rfl; refine blk_put (cs := #[.int .i32 b6, .int .i64 a9, .int .i64 a8]) ?_ 0 _ rfl; exact a3.out) Try.underlying66 rfl (by kernel_rfl)) rfl ?_
            exact ⟨by first | rfl | (simp [errW_none, errW_some] <;> rfl) | (simp only [← d5]; first | rfl | (simp [errW_none, errW_some] <;> rfl)) | (simp [*, errW_none, errW_some] <;> rfl), by repeat (first | (with_reducible first | exact HB.out | apply below_alloc | apply pw_below_drewN | apply below_drew1 | refine below_set ?_ b3.out | refine below_set ?_ d3.out) | exact HB.out)⟩
           ·rw [if_neg j2] at H
            have k8 : decide ((l0.length : Int) ≤ (wrap64 (a1 + d2))) = false := decide_eq_false j2
            clear j2
            obtain ⟨b1, f2⟩ : ∃ j_ : Int, (wrap64 (a1 + d2)) = j_ := ⟨_, rfl⟩
            replace H : (if 0 ≤ (b1) then (if (b1) < (l0.length : Int) then (if (rd l0 (b1)) < g3 then (some (65533, a1, b0)) else (if (rd l0 (b1)) > g4 then (some (65533, a1, b0)) else (scal_One.l0 k2 l0 a1 b5 128 191 (Go.bits .or .i32 (wrap32 (f6 * 64)) (wrap32 (Go.bits .and .u8 (rd l0 (b1)) 63))) (wrap64 (d2 + 1)) 65533 a1 (wrap64 (d2 + 1))))) else (none)) else (none)) = some (r1, r2, r3) := by first | (rw [f2] at H; exact H) | (simp only [f2] at H ⊢; exact H)
            (try rw [f2] at k8)
            have hji31w : (IntKind.i64.wrap (a1 + d2)) = b1 := (i64_w _).trans f2
            by_cases k9 : 0 ≤ (b1)
            ·rw [if_pos k9] at H
             have z2 : decide (0 ≤ (b1)) = true := decide_eq_true k9
             clear k9
             by_cases l1 : (b1) < (l0.length : Int)
             ·rw [if_pos l1] at H
              have z3 : decide ((b1) < (l0.length : Int)) = true := decide_eq_true l1
              clear l1
              by_cases j3 : (rd l0 (b1)) < g3
              ·rw [if_pos j3] at H
               have o8 : decide ((rd l0 (b1)) < g3) = true := decide_eq_true j3
               clear j3
               simp only [Option.some.injEq, Prod.mk.injEq] at H
               obtain ⟨rfl, rfl, rfl⟩ := H
               have e4 : 0 ≤ ((b1) : Int) := of_decide_eq_true (by assumption)
               have e5 : (b1) < (l0.length : Int) := of_decide_eq_true (by assumption)
               obtain ⟨g9, i5, d0⟩ := Kd.at_int f1.out (b1) e4 e5
               obtain rfl : b4 = g9 := (by injection i5)
               replace d0 := (HB.out.cell (World.block_lt_of_cell? w _ d0)).trans d0
               replace e4 := eq_true e4
               replace e5 := eq_true e5
               have z4 := b2.out
               have z5 := a7.out
               have r8 : wr.cell? ⟨a2, 0, none⟩ = some (.int .i32 65533) := (blk_cell a4.out 0).trans rfl
               have r9 : wr.cell? ⟨a2, 1, none⟩ = some (.int .i64 a1) := (blk_cell a4.out 1).trans rfl
               have s0 : wr.cell? ⟨a2, 2, none⟩ = some (.int .i64 b0) := (blk_cell a4.out 2).trans rfl
               have s1 := blk_frozen a4.out 0
               have s2 := blk_frozen a4.out 1
               have s3 := blk_frozen a4.out 2
               have s4 : wr.cell? ⟨a6, 0, none⟩ = some (.int .i32 b6) := (blk_cell a3.out 0).trans rfl
               have s5 : wr.cell? ⟨a6, 1, none⟩ = some (.int .i64 a9) := (blk_cell a3.out 1).trans rfl
               have s6 : wr.cell? ⟨a6, 2, none⟩ = some (.int .i64 a8) := (blk_cell a3.out 2).trans rfl
               have s7 := blk_frozen a3.out 0
               have s8 := blk_frozen a3.out 1
               have s9 := blk_frozen a3.out 2
               go_wp2
               repeat (go_quiet (fail); try go_wp2)
               refine bodyPost_ret (results_cell_row rfl _ _ a6 66 #[.int .i32 65533, .int .i64 a1, .int .i64 b0] (0, 0) _ rfl (by refine blk_put (cs := #[.int .i32 65533, .int .i64 a1, .int .i64 a8]) ?_ 2 _ rfl; refine blk_put (cs := #[.int .i32 65533, .int .i64 a9, .int .i64 a8]) ?_ 1 _ rfl; refine blk_put (cs := #[.int .i32 b6, .int .i64 a9, .int .i64 a8]) ?_ 0 _ rfl; exact a3.out) Try.underlying66 rfl (by kernel_rfl)) rfl ?_
               exact ⟨by first | rfl | (simp [errW_none, errW_some] <;> rfl) | (simp only [← d5, ← f2]; first | rfl | (simp [errW_none, errW_some] <;> rfl)) | (simp [*, errW_none, errW_some] <;> rfl), by repeat (first | (with_reducible first | exact HB.out | apply below_alloc | apply pw_below_drewN | apply below_drew1 | refine below_set ?_ b3.out | refine below_set ?_ d3.out) | exact HB.out)⟩
              ·rw [if_neg j3] at H
               have o8 : decide ((rd l0 (b1)) < g3) = false := decide_eq_false j3
               clear j3
               by_cases j4 : (rd l0 (b1)) > g4
               ·rw [if_pos j4] at H
                have o9 : decide (g4 < (rd l0 (b1))) = true := decide_eq_true j4
                clear j4
                simp only [Option.some.injEq, Prod.mk.injEq] at H
                obtain ⟨rfl, rfl, rfl⟩ := H
                have e4 : 0 ≤ ((b1) : Int) := of_decide_eq_true (by assumption)
                have e5 : (b1) < (l0.length : Int) := of_decide_eq_true (by assumption)
                obtain ⟨g9, i5, d0⟩ := Kd.at_int f1.out (b1) e4 e5
                obtain rfl : b4 = g9 := (by injection i5)
                replace d0 := (HB.out.cell (World.block_lt_of_cell? w _ d0)).trans d0
                replace e4 := eq_true e4
                replace e5 := eq_true e5
                have g5 : 0 ≤ ((b1) : Int) := of_decide_eq_true (by assumption)
                have g6 : (b1) < (l0.length : Int) := of_decide_eq_true (by assumption)
                obtain ⟨j8, j9, d4⟩ := Kd.at_int f1.out (b1) g5 g6
                obtain rfl : b4 = j8 := (by injection j9)
                replace d4 := (HB.out.cell (World.block_lt_of_cell? w _ d4)).trans d4
                replace g5 := eq_true g5
                replace g6 := eq_true g6
                have z6 := b2.out
                have z7 := a7.out
                have t0 : wr.cell? ⟨a2, 0, none⟩ = some (.int .i32 65533) := (blk_cell a4.out 0).trans rfl
                have t1 : wr.cell? ⟨a2, 1, none⟩ = some (.int .i64 a1) := (blk_cell a4.out 1).trans rfl
                have t2 : wr.cell? ⟨a2, 2, none⟩ = some (.int .i64 b0) := (blk_cell a4.out 2).trans rfl
                have t3 := blk_frozen a4.out 0
                have t4 := blk_frozen a4.out 1
                have t5 := blk_frozen a4.out 2
                have t6 : wr.cell? ⟨a6, 0, none⟩ = some (.int .i32 b6) := (blk_cell a3.out 0).trans rfl
                have t7 : wr.cell? ⟨a6, 1, none⟩ = some (.int .i64 a9) := (blk_cell a3.out 1).trans rfl
                have t8 : wr.cell? ⟨a6, 2, none⟩ = some (.int .i64 a8) := (blk_cell a3.out 2).trans rfl
                have t9 := blk_frozen a3.out 0
                have u0 := blk_frozen a3.out 1
                have u1 := blk_frozen a3.out 2
                go_wp2
                repeat (go_quiet (fail); try go_wp2)
                refine bodyPost_ret (results_cell_row rfl _ _ a6 66 #[.int .i32 65533, .int .i64 a1, .int .i64 b0] (0, 0) _ rfl (by refine blk_put (cs := #[.int .i32 65533, .int .i64 a1, .int .i64 a8]) ?_ 2 _ rfl; refine blk_put (cs := #[.int .i32 65533, .int .i64 a9, .int .i64 a8]) ?_ 1 _ rfl; refine blk_put (cs := #[.int .i32 b6, .int .i64 a9, .int .i64 a8]) ?_ 0 _ rfl; exact a3.out) Try.underlying66 rfl (by kernel_rfl)) rfl ?_
                exact ⟨by first | rfl | (simp [errW_none, errW_some] <;> rfl) | (simp only [← d5, ← f2]; first | rfl | (simp [errW_none, errW_some] <;> rfl)) | (simp [*, errW_none, errW_some] <;> rfl), by repeat (first | (with_reducible first | exact HB.out | apply below_alloc | apply pw_below_drewN | apply below_drew1 | refine below_set ?_ b3.out | refine below_set ?_ d3.out) | exact HB.out)⟩
               ·rw [if_neg j4] at H
                have o9 : decide (g4 < (rd l0 (b1))) = false := decide_eq_false j4
                clear j4
                have H' := Aside0.mk H
                clear H
                have e4 : 0 ≤ ((b1) : Int) := of_decide_eq_true (by assumption)
                have e5 : (b1) < (l0.length : Int) := of_decide_eq_true (by assumption)
                obtain ⟨g9, i5, d0⟩ := Kd.at_int f1.out (b1) e4 e5
                obtain rfl : b4 = g9 := (by injection i5)
                replace d0 := (HB.out.cell (World.block_lt_of_cell? w _ d0)).trans d0
                replace e4 := eq_true e4
                replace e5 := eq_true e5
                have g5 : 0 ≤ ((b1) : Int) := of_decide_eq_true (by assumption)
                have g6 : (b1) < (l0.length : Int) := of_decide_eq_true (by assumption)
                obtain ⟨j8, j9, d4⟩ := Kd.at_int f1.out (b1) g5 g6
                obtain rfl : b4 = j8 := (by injection j9)
                replace d4 := (HB.out.cell (World.block_lt_of_cell? w _ d4)).trans d4
                replace g5 := eq_true g5
                replace g6 := eq_true g6
                have k0 : 0 ≤ ((b1) : Int) := of_decide_eq_true (by assumption)
                have k1 : (b1) < (l0.length : Int) := of_decide_eq_true (by assumption)
                obtain ⟨p0, q0, h6⟩ := Kd.at_int f1.out (b1) k0 k1
                obtain rfl : b4 = p0 := (by injection q0)
                replace h6 := (HB.out.cell (World.block_lt_of_cell? w _ h6)).trans h6
                replace k0 := eq_true k0
                replace k1 := eq_true k1
                have z8 := b2.out
                have z9 := a7.out
                have u2 : wr.cell? ⟨a2, 0, none⟩ = some (.int .i32 65533) := (blk_cell a4.out 0).trans rfl
                have u3 : wr.cell? ⟨a2, 1, none⟩ = some (.int .i64 a1) := (blk_cell a4.out 1).trans rfl
                have u4 : wr.cell? ⟨a2, 2, none⟩ = some (.int .i64 b0) := (blk_cell a4.out 2).trans rfl
                have u5 := blk_frozen a4.out 0
                have u6 := blk_frozen a4.out 1
                have u7 := blk_frozen a4.out 2
                go_wp2
                repeat (go_quiet (fail); try go_wp2)
                go_roundg k2
                case measure => have := p5.out; have := p6.out; omega
                case rel => exact ⟨(128), (191), (Go.bits .or .i32 (wrap32 (f6 * 64)) (wrap32 (Go.bits .and .u8 (rd l0 (b1)) 63))), (wrap64 (d2 + 1)), (b6), (a9), (a8), (wrap64 (d2 + 1)), (rfl), (rfl), (by first | rfl | (simp; done) | (simp only [← f2] <;> (first | rfl | simp)) | (simp [*]; done)), (rfl), H', ⟨by have := p5.out; have := p6.out; omega⟩, ⟨by refine blk_far ?_ a7.out _; exact a3.out⟩, ⟨by refine blk_put (cs := #[.int .i32 65533, .int .i64 a1, .int .i64 b0]) ?_ 2 _ rfl; exact a4.out⟩, ⟨by repeat (first | (with_reducible first | exact HB.out | apply below_alloc | apply pw_below_drewN | apply below_drew1 | refine below_set ?_ b3.out | refine below_set ?_ d3.out) | exact HB.out)⟩⟩
             ·rw [if_neg l1] at H
              exact absurd H (by simp)
            ·rw [if_neg k9] at H
             exact absurd H (by simp)
          ·rw [if_neg j1] at H
           have o7 : decide (d2 < b5) = false := decide_eq_false j1
           clear j1
           simp only [Option.some.injEq, Prod.mk.injEq] at H
           obtain ⟨rfl, rfl, rfl⟩ := H
           have A1 := b2.out
           have A2 := a7.out
           have u9 : wr.cell? ⟨a2, 0, none⟩ = some (.int .i32 65533) := (blk_cell a4.out 0).trans rfl
           have v0 : wr.cell? ⟨a2, 1, none⟩ = some (.int .i64 a1) := (blk_cell a4.out 1).trans rfl
           have v1 : wr.cell? ⟨a2, 2, none⟩ = some (.int .i64 b0) := (blk_cell a4.out 2).trans rfl
           have v2 := blk_frozen a4.out 0
           have v3 := blk_frozen a4.out 1
           have v4 := blk_frozen a4.out 2
           have v5 : wr.cell? ⟨a6, 0, none⟩ = some (.int .i32 b6) := (blk_cell a3.out 0).trans rfl
           have v8 : wr.cell? ⟨a6, 1, none⟩ = some (.int .i64 a9) := (blk_cell a3.out 1).trans rfl
           have w0 : wr.cell? ⟨a6, 2, none⟩ = some (.int .i64 a8) := (blk_cell a3.out 2).trans rfl
           have w1 := blk_frozen a3.out 0
           have w2 := blk_frozen a3.out 1
           have w3 := blk_frozen a3.out 2
           go_wp2
           repeat (go_quiet (fail); try go_wp2)
           refine bodyPost_ret (results_cell_row rfl _ _ a6 66 #[.int .i32 f6, .int .i64 a1, .int .i64 b0] (0, 0) _ rfl (by refine blk_put (cs := #[.int .i32 f6, .int .i64 a1, .int .i64 a8]) ?_ 2 _ rfl; refine blk_put (cs := #[.int .i32 f6, .int .i64 a9, .int .i64 a8]) ?_ 1 _ rfl; refine blk_put (cs := #[.int .i32 b6, .int .i64 a9, .int .i64 a8]) ?_ 0 _ rfl; refine blk_far ?_ a7.out _; exact a3.out) Try.underlying66 rfl (by kernel_rfl)) rfl ?_
           exact ⟨by first | rfl | (simp [errW_none, errW_some] <;> rfl) | (simp only [← d5]; first | rfl | (simp [errW_none, errW_some] <;> rfl)) | (simp [*, errW_none, errW_some] <;> rfl), by repeat (first | (with_reducible first | exact HB.out | apply below_alloc | apply pw_below_drewN | apply below_drew1 | refine below_set ?_ b3.out | refine below_set ?_ d3.out) | exact HB.out)⟩
       ·rw [if_neg i8] at H
        exact absurd H (by simp)
     ·rw [if_neg c9] at H
      exact absurd H (by simp)
    ·rw [if_neg c8] at H
     exact absurd H (by simp)
end Go.Proofs.Ytoefjhdcipgacaa.PA
end
section
namespace Go.Proofs.Ytoefjhdcipgacaa.PA
open Go.RowKit Go.Proofs.YtoefjhdcipgacaaW.PrintWords Go.Proofs.YtoefjhdcipgacaaW.PrintLast Go.Proofs.YtoefjhdcipgacaaW.PrintMore
attribute [local go_sem] max2_int min2_int max_two min_two max_three min_three max_four min_four   -- for this text's walks alone
set_option linter.unusedVariables false
set_option linter.unusedSimpArgs false
def scal_All.l0 : Nat → List Int → List (S66) → Int → Option ((List (S66)))
 | 0, _, _, _ => none
 | k + 1, x0, x3, x4 => if x4 < (x0.length : Int) then ((scal_One.f k x0 x4).bind fun b2 => (if x3.length < 5864062014805 then (scal_All.l0 k x0 (x3 ++ [(⟨b2.1, b2.2.1, b2.2.2⟩ : S66)]) (wrap64 (x4 + b2.2.2))) else (none))) else (some x3)
def scal_All.f (k : Nat) (l0 : List Int) : Option ((List (S66))) := scal_All.l0 k l0 ([] : List (S66)) 0
set_option maxHeartbeats 8000000 in
set_option maxRecDepth 100000 in
theorem scal_All.calls (k : Nat) (A0 : Option Addr) (c0 : Nat) (l0 : List Int) (r : List (S66)) (w : World) (c1 : Kd.C (Kd.int .u8) w A0 l0.length l0) (c3 : l0.length ≤ c0) (h : scal_All.f k l0 = some r) :
  Calls Try.prog 50 #[.slice A0 l0.length c0] w fun e w' => ∃ c5 : Value, e = .returned (c5) ∧ Kd.R k66 66 w' w.heap.size (fun _ => True) c5 r ∧ Below w.heap.size w w' := by
 have hu66 := Try.underlying66
 have d2 := Aside0.mk c1
 have d3 := Aside0.mk c3
 clear c1 c3
 have HB := Aside0.mk (Below.refl w.heap.size w)
 have H : (scal_All.l0 k l0 ([] : List (S66)) 0) = some r := h
 clear h
 have H' := Aside0.mk H
 clear H
 go_enter Try.func50, Try.ntmps50
 go_wp2
 go_loopg [3, 4] k (fun kq v3 v4 w' => ∃ (a8 : List (S66)) (a6 : Int), v4 = .int .i64 a6 ∧ Aside0 (scal_All.l0 kq l0 a8 a6 = some r) ∧ Aside0 (kq ≤ k) ∧ Aside0 (Kd.R k66 66 w' w.heap.size (fun _ => True) v3 a8) ∧ Aside0 (Below w.heap.size w w'))
 case atStart => exact ⟨(([] : List (S66))), (0), (by first | rfl | (simp; done) | (simp [*]; done)), H', ⟨Nat.le_refl _⟩, ⟨by first | exact Kd.R_nil _ _ _ _ _ | exact Kd.N_nil _ _ _ _ _ | exact Kd.V_nil _ _ _ _ _ | exact Kd.Q_nil _ _ _ _ _ | exact Kd.S_nil _ _ _ _ _⟩, ⟨by repeat (first | (with_reducible first | exact HB.out | apply below_alloc | apply pw_below_drewN | apply below_drew1) | exact HB.out)⟩⟩
 case round =>
  clear H'
  obtain ⟨a8, a6, rfl, HA, c6, a7, HB⟩ := hrel
  cases gk with
  | zero => exact absurd HA.out (by simp [scal_All.l0])
  | succ k1 =>
   have H := HA.out
   clear HA
   simp only [scal_All.l0] at H
   by_cases c2 : a6 < (l0.length : Int)
   ·rw [if_pos c2] at H
    have d0 : decide (a6 < (l0.length : Int)) = true := decide_eq_true c2
    clear c2
    replace H := Option.bind_eq_some_iff.mp H
    obtain ⟨⟨a3, a5, a4⟩, c7, H⟩ := H
    replace H : (if a8.length < 5864062014805 then (scal_All.l0 k1 l0 (a8 ++ [(⟨a3, a5, a4⟩ : S66)]) (wrap64 (a6 + a4))) else (none)) = some r := H
    have A3 := Aside0.mk c7
    clear c7
    by_cases c4 : a8.length < 5864062014805
    ·rw [if_pos c4] at H
     have d1 := Aside0.mk c4
     clear c4
     obtain ⟨b6, a9⟩ : ∃ y_ : List (S66), y_ = (a8 ++ [(⟨a3, a5, a4⟩ : S66)]) := ⟨_, rfl⟩
     replace H : (scal_All.l0 k1 l0 b6 (wrap64 (a6 + a4))) = some r := by first | (rw [a9]; with_reducible exact H) | (have b7 := (Option.bind_some _ _).symm.trans H; rw [a9]; with_reducible exact b7) | (have b7 := (Option.bind_some _ _).symm.trans H; with_reducible exact b7) | with_reducible exact H | (rw [a9]; exact H) | exact H
     have b8 := Aside0.mk a9
     clear a9
     have H' := Aside0.mk H
     clear H
     go_wp2_with (first | ((with_reducible refine gate_callee (f := 60) rfl ?_); refine goesL_ (some 12) rfl rfl Try.func60 (by kernel_rfl) rfl #[.slice A0 l0.length c0, .int .i64 a6] rfl (by (try simp only [List.map_toArray, List.map_cons, List.map_nil]); first | done | rfl | (simp only [List.length_drop, List.length_take]; rfl)) ?_; (with_reducible refine (scal_One.calls k1 _ _ l0 a6 a3 a5 a4 _ ?side1 ?side2 A3.out).mono ?_); (case side1 => repeat (first | exact (Kd.C_below d2.out HB.out) | (with_reducible refine Kd.C_alloc ?_ _) | (with_reducible refine Kd.C_drewN ?_ _) | (with_reducible refine Kd.C_drew ?_))); (case side2 => exact d3.out); rintro e w5 ⟨rfl, hb⟩; refine ⟨_, rfl, ?_⟩; have b0 := Aside0.mk (Kd.R_below (by (with_reducible repeat (first | apply Kd.R_alloc | apply Kd.R_drewN | apply Kd.R_drew)); exact a7.out) hb); have b1 := Aside0.mk (below_step (by repeat (first | (with_reducible first | exact HB.out | apply below_alloc | apply pw_below_drewN | apply below_drew1) | exact HB.out)) hb); clear a7; clear HB; have a7 := b0; have HB := b1; clear b0 b1; (try clear hb); (try clear e8); (try clear hk); (try clear hi)) | ((with_reducible refine gate_dst (N := 5) rfl ?_); refine box_event ?hg (N := 5) ?hd (cs := #[.int .i32 0, .int .i64 0, .int .i64 0]) (t := 66) ?hr ?_; (case hd => rfl); (case hg => rfl); (case hr => first | (go_simp; done) | (go_simp; rfl)); intro a1 hg w6 hbox hb; have b0 := Aside0.mk (Kd.R_below (Kd.R_elderB (by (with_reducible repeat (first | apply Kd.R_alloc | apply Kd.R_drewN | apply Kd.R_drew)); exact a7.out) a1 (Nat.le_of_eq hg.symm)) hb); have b1 := Aside0.mk (below_step (by repeat (first | (with_reducible first | exact HB.out | apply below_alloc | apply pw_below_drewN | apply below_drew1) | exact HB.out)) hb); have b5 := Aside0.mk (hbox); have c8 := Aside0.mk ((by rw [hg]; exact (below_size (by repeat (first | (with_reducible first | exact HB.out | apply below_alloc | apply pw_below_drewN | apply below_drew1) | exact HB.out))) : w.heap.size ≤ a1)); have c9 := Aside0.mk ((by rw [hg]; exact (below_size (by repeat (first | (with_reducible first | exact HB.out | apply below_alloc | apply pw_below_drewN | apply below_drew1) | exact HB.out))) : w.heap.size ≤ a1)); clear a7; clear HB; have a7 := b0; have HB := b1; have a2 := b5; have e6 := c8; have b3 := c9; clear b0 b1 b5 c8 c9; clear hb hbox hg; have d4 : w6.cell? ⟨a1, 0, none⟩ = some (.int .i32 0) := (blk_cell a2.out 0).trans rfl; have d5 : w6.cell? ⟨a1, 1, none⟩ = some (.int .i64 0) := (blk_cell a2.out 1).trans rfl; have d6 : w6.cell? ⟨a1, 2, none⟩ = some (.int .i64 0) := (blk_cell a2.out 2).trans rfl; have d7 := blk_frozen a2.out 0; have d8 := blk_frozen a2.out 1; have d9 := blk_frozen a2.out 2) | ((with_reducible refine gate_builtin (b := .append) (xs := #[.tmp 13, .tmp 15]) rfl ?_); at_builtin; refine Kd.R_append k66 (w0 := w) w.heap.size rfl (.tmp 13) (.tmp 15) 55 66 (.agg #[(.int .i32 0), (.int .i64 0), (.int .i64 0)]) 24 rfl Try.underlying55 info66 rfl (by decide) (by omega) u3 a8 (⟨a3, a5, a4⟩ : S66) [.int .i32 a3, .int .i64 a5, .int .i64 a4] (fun k_ => k_ ≠ a1) (fun _ => False) rfl (by first | (go_simp; done) | (go_simp; rfl)) ?aP (fun _ hk => hk.elim) ?aF ?aO ?aB ?aS ?aL ?_; (case aP => exact k66_mkM _ _ _ (⟨a3, a5, a4⟩ : S66)); (case aB => exact (by repeat (first | (with_reducible first | exact HB.out | apply below_alloc | apply pw_below_drewN | apply below_drew1 | refine below_set ?_ b3.out) | exact HB.out))); (case aF => exact (fun k_ hk => Kd.freshB (g := a1) (o := .cells #[.int .i32 a3, .int .i64 a5, .int .i64 a4] 66 (0, 0)) (by (with_reducible repeat (first | refine blk_drewN ?_ _ | refine blk_drew ?_ | refine blk_alloc ?_ _)); refine blk_put (cs := #[.int .i32 a3, .int .i64 a5, .int .i64 0]) ?_ 2 _ rfl; (with_reducible repeat (first | refine blk_drewN ?_ _ | refine blk_drew ?_ | refine blk_alloc ?_ _)); refine blk_put (cs := #[.int .i32 a3, .int .i64 0, .int .i64 0]) ?_ 1 _ rfl; (with_reducible repeat (first | refine blk_drewN ?_ _ | refine blk_drew ?_ | refine blk_alloc ?_ _)); refine blk_put (cs := #[.int .i32 0, .int .i64 0, .int .i64 0]) ?_ 0 _ rfl; (with_reducible repeat (first | refine blk_drewN ?_ _ | refine blk_drew ?_ | refine blk_alloc ?_ _)); exact a2.out) k_ hk)); (case aO => exact (by (with_reducible repeat (first | apply Kd.R_alloc | apply Kd.R_drewN | apply Kd.R_drew)); exact Kd.R_mono (Kd.R_far (p := ⟨a1, 2, none⟩) (Kd.R_far (p := ⟨a1, 1, none⟩) (Kd.R_far (p := ⟨a1, 0, none⟩) (Kd.R_mono a7.out (fun k_ hk => (⟨hk, hk.2⟩ : _ ∧ k_ ≠ a1))) (fun _ hk => hk.2) (.int .i32 a3)) (fun _ hk => hk.2) (.int .i64 a5)) (fun _ hk => hk.2) (.int .i64 a4)) (fun _ hk => hk.1.2))); (case aS => exact (below_size (by repeat (first | (with_reducible first | exact HB.out | apply below_alloc | apply pw_below_drewN | apply below_drew1 | refine below_set ?_ b3.out) | exact HB.out)))); (case aL => have := d1.out; omega); intro e7 w8 ho hb hg hat; rw [← b8.out] at ho; have b0 := Aside0.mk (blk_grown (g := a1) (o := .cells #[.int .i32 a3, .int .i64 a5, .int .i64 a4] 66 (0, 0)) (by (with_reducible repeat (first | refine blk_drewN ?_ _ | refine blk_drew ?_ | refine blk_alloc ?_ _)); refine blk_put (cs := #[.int .i32 a3, .int .i64 a5, .int .i64 0]) ?_ 2 _ rfl; (with_reducible repeat (first | refine blk_drewN ?_ _ | refine blk_drew ?_ | refine blk_alloc ?_ _)); refine blk_put (cs := #[.int .i32 a3, .int .i64 0, .int .i64 0]) ?_ 1 _ rfl; (with_reducible repeat (first | refine blk_drewN ?_ _ | refine blk_drew ?_ | refine blk_alloc ?_ _)); refine blk_put (cs := #[.int .i32 0, .int .i64 0, .int .i64 0]) ?_ 0 _ rfl; (with_reducible repeat (first | refine blk_drewN ?_ _ | refine blk_drew ?_ | refine blk_alloc ?_ _)); exact a2.out) hg (Kd.R_away a7.out (fun _ hk => hk.2))); have b1 := Aside0.mk (hb); have b5 := Aside0.mk (ho); clear a2; clear HB; clear a7; have a2 := b0; have HB := b1; have b9 := b5; clear b0 b1 b5; clear ho hb hg hat; have e0 : w8.cell? ⟨a1, 0, none⟩ = some (.int .i32 a3) := (blk_cell a2.out 0).trans rfl; have e1 : w8.cell? ⟨a1, 1, none⟩ = some (.int .i64 a5) := (blk_cell a2.out 1).trans rfl; have e2 : w8.cell? ⟨a1, 2, none⟩ = some (.int .i64 a4) := (blk_cell a2.out 2).trans rfl; have e3 := blk_frozen a2.out 0; have e4 := blk_frozen a2.out 1; have e5 := blk_frozen a2.out 2))
     go_roundg k1
     case measure => have := c6.out; omega
     case rel => exact ⟨(b6), (wrap64 (a6 + a4)), (by first | rfl | (simp; done) | (simp [*]; done)), H', ⟨by have := c6.out; omega⟩, ⟨by (with_reducible repeat (first | apply Kd.R_alloc | apply Kd.R_drewN | apply Kd.R_drew)); exact Kd.R_mono b9.out (fun _ hk => trivial)⟩, ⟨by repeat (first | (with_reducible first | exact HB.out | apply below_alloc | apply pw_below_drewN | apply below_drew1 | refine below_set ?_ b3.out) | exact HB.out)⟩⟩
    ·rw [if_neg c4] at H
     exact absurd H (by simp)
   ·rw [if_neg c2] at H
    have d0 : decide (a6 < (l0.length : Int)) = false := decide_eq_false c2
    clear c2
    obtain rfl := Option.some.inj H
    go_wp2
    go_ret
    exact ⟨_, by first | rfl | (simp [errW_none, errW_some] <;> rfl) | (simp [*, errW_none, errW_some] <;> rfl), by (with_reducible repeat (first | apply Kd.R_alloc | apply Kd.R_drewN | apply Kd.R_drew)); exact a7.out, by repeat (first | (with_reducible first | exact HB.out | apply below_alloc | apply pw_below_drewN | apply below_drew1) | exact HB.out)⟩
end Go.Proofs.Ytoefjhdcipgacaa.PA
end
section
namespace Go.Proofs.Ytoefjhdcipgacaa.PA
open Go.RowKit Go.Proofs.YtoefjhdcipgacaaW.PrintWords Go.Proofs.YtoefjhdcipgacaaW.PrintLast Go.Proofs.YtoefjhdcipgacaaW.PrintMore
attribute [local go_sem] max2_int min2_int max_two min_two max_three min_three max_four min_four   -- for this text's walks alone
set_option linter.unusedVariables false
set_option linter.unusedSimpArgs false
def pats_blank.f (a0 : Int) : Option (Bool) := if a0 = 32 then (some true) else (if a0 = 9 then (some true) else (if a0 = 10 then (some true) else (some (a0 == 13))))
set_option maxHeartbeats 8000000 in
set_option maxRecDepth 100000 in
theorem pats_blank.calls (a0 : Int) (r : Bool) (w : World) (h : pats_blank.f a0 = some r) :
  Calls Try.prog 51 #[.int .i32 a0] w fun e w' => e = .returned (.bool r) ∧ Drawn0 w w' := by
 have H : (if a0 = 32 then (some true) else (if a0 = 9 then (some true) else (if a0 = 10 then (some true) else (some (a0 == 13))))) = some r := h
 clear h
 by_cases c2 : a0 = 32
 ·rw [if_pos c2] at H
  have c2b0 : (a0 == 32) = true := beq_iff_eq.mpr c2
  have c2b1 : (a0 != 32) = false := bne_eq_false_iff_eq.mpr c2
  clear c2
  obtain rfl := Option.some.inj H
  go_enter Try.func51, Try.ntmps51
  go_wp2
  go_ret
  exact ⟨by first | rfl | (simp; done) | (simp [*]; done), by repeat (first | exact Drawn0.refl _ | apply Drawn0.step)⟩
 ·rw [if_neg c2] at H
  have c2b0 : (a0 == 32) = false := beq_eq_false_iff_ne.mpr c2
  have c2b1 : (a0 != 32) = true := bne_iff_ne.mpr c2
  by_cases c3 : a0 = 9
  ·rw [if_pos c3] at H
   have c3b0 : (a0 == 9) = true := beq_iff_eq.mpr c3
   have c3b1 : (a0 != 9) = false := bne_eq_false_iff_eq.mpr c3
   clear c3
   obtain rfl := Option.some.inj H
   go_enter Try.func51, Try.ntmps51
   go_wp2
   go_ret
   exact ⟨by first | rfl | (simp; done) | (simp [*]; done), by repeat (first | exact Drawn0.refl _ | apply Drawn0.step)⟩
  ·rw [if_neg c3] at H
   have c3b0 : (a0 == 9) = false := beq_eq_false_iff_ne.mpr c3
   have c3b1 : (a0 != 9) = true := bne_iff_ne.mpr c3
   by_cases c4 : a0 = 10
   ·rw [if_pos c4] at H
    have c4b0 : (a0 == 10) = true := beq_iff_eq.mpr c4
    have c4b1 : (a0 != 10) = false := bne_eq_false_iff_eq.mpr c4
    clear c4
    obtain rfl := Option.some.inj H
    go_enter Try.func51, Try.ntmps51
    go_wp2
    go_ret
    exact ⟨by first | rfl | (simp; done) | (simp [*]; done), by repeat (first | exact Drawn0.refl _ | apply Drawn0.step)⟩
   ·rw [if_neg c4] at H
    have c4b0 : (a0 == 10) = false := beq_eq_false_iff_ne.mpr c4
    have c4b1 : (a0 != 10) = true := bne_iff_ne.mpr c4
    obtain rfl := Option.some.inj H
    go_enter Try.func51, Try.ntmps51
    go_wp2
    go_ret
    exact ⟨by first | rfl | (simp; done) | (simp [*]; done), by repeat (first | exact Drawn0.refl _ | apply Drawn0.step)⟩
end Go.Proofs.Ytoefjhdcipgacaa.PA
end
section
namespace Go.Proofs.Ytoefjhdcipgacaa.PA
open Go.RowKit Go.Proofs.YtoefjhdcipgacaaW.PrintWords Go.Proofs.YtoefjhdcipgacaaW.PrintLast Go.Proofs.YtoefjhdcipgacaaW.PrintMore
attribute [local go_sem] max2_int min2_int max_two min_two max_three min_three max_four min_four   -- for this text's walks alone
set_option linter.unusedVariables false
set_option linter.unusedSimpArgs false
def stanzaref07_Same.l0 : Nat → List Int → List Int → Int → Option (Bool)
 | 0, _, _, _ => none
 | k + 1, x0, x1, x5 => if x5 < (x0.length : Int) then (if 0 ≤ x5 then (if x5 < (x1.length : Int) then (if (rd x0 x5) = (rd x1 x5) then (stanzaref07_Same.l0 k x0 x1 (wrap64 (x5 + 1))) else (some false)) else (none)) else (none)) else (some true)
def stanzaref07_Same.f (k : Nat) (l0 : List Int) (l1 : List Int) : Option (Bool) := if (l0.length : Int) = (l1.length : Int) then (stanzaref07_Same.l0 k l0 l1 0) else (some false)
theorem stanzaref07_Same.mono_l : ∀ k, (∀ y0 y1 y2, LeO (stanzaref07_Same.l0 k y0 y1 y2) (stanzaref07_Same.l0 (k + 1) y0 y1 y2))
 | 0 => fun _ _ _ r h => by simp [stanzaref07_Same.l0] at h
 | k + 1 => by
  have a7 := stanzaref07_Same.mono_l k
  ·intro y0 y1 y2
   unfold stanzaref07_Same.l0
   repeat' first
   | (with_reducible exact a7 _ _ _)
   | (with_reducible exact LeO.refl _)
   | (with_reducible exact LeO.none _)
   | (with_reducible refine LeO.ite ?_ ?_)
   | (with_reducible refine LeO.bind ?_ (fun _ => ?_))
   | exact a7 _ _ _
   | exact LeO.none _
   | refine LeO.ite ?_ ?_
   | refine LeO.bind ?_ (fun _ => ?_)
theorem stanzaref07_Same.mono : ∀ a0 a1 k, LeO (stanzaref07_Same.f k a0 a1) (stanzaref07_Same.f (k + 1) a0 a1) := by
 intro a0 a1 k
 have a7 := stanzaref07_Same.mono_l k
 unfold stanzaref07_Same.f
 repeat' first
   | (with_reducible exact a7 _ _ _)
   | (with_reducible exact LeO.refl _)
   | (with_reducible exact LeO.none _)
   | (with_reducible refine LeO.ite ?_ ?_)
   | (with_reducible refine LeO.bind ?_ (fun _ => ?_))
   | exact a7 _ _ _
   | exact LeO.none _
   | refine LeO.ite ?_ ?_
   | refine LeO.bind ?_ (fun _ => ?_)
set_option maxHeartbeats 8000000 in
set_option maxRecDepth 100000 in
theorem stanzaref07_Same.calls (k : Nat) (A0 : Option Addr) (c0 : Nat) (l0 : List Int) (A1 : Option Addr) (c1 : Nat) (l1 : List Int) (r : Bool) (w : World) (b7 : Kd.C (Kd.int .i32) w A0 l0.length l0) (b8 : l0.length ≤ c0) (b9 : Kd.C (Kd.int .i32) w A1 l1.length l1) (c2 : l1.length ≤ c1) (h : stanzaref07_Same.f k l0 l1 = some r) :
  Calls Try.prog 38 #[.slice A0 l0.length c0, .slice A1 l1.length c1] w fun e w' => e = .returned (.bool r) ∧ Drawn0 w w' := by
 have c8 := Aside0.mk b7
 have d6 := Aside0.mk b8
 clear b7 b8
 have c9 := Aside0.mk b9
 have d7 := Aside0.mk c2
 clear b9 c2
 have H : (if (l0.length : Int) = (l1.length : Int) then (stanzaref07_Same.l0 k l0 l1 0) else (some false)) = some r := h
 clear h
 by_cases c3 : (l0.length : Int) = (l1.length : Int)
 ·rw [if_pos c3] at H
  have b2 : ((l0.length : Int) == (l1.length : Int)) = true := beq_iff_eq.mpr c3
  have b3 : ((l0.length : Int) != (l1.length : Int)) = false := bne_eq_false_iff_eq.mpr c3
  have b4 : (l0.length == l1.length) = true := by first | simpa using c3 | (simp at c3 ⊢; omega)
  clear c3
  have H' := Aside0.mk H
  clear H
  go_enter Try.func38, Try.ntmps38
  go_wp2
  repeat (go_quiet (fail); try go_wp2)
  go_loopg [5] k (fun kq v5 w' => ∃ (a2 : Int), v5 = .int .i64 a2 ∧ Aside0 (stanzaref07_Same.l0 kq l0 l1 a2 = some r) ∧ Aside0 (kq ≤ k) ∧ Drawn0 w w')
  case atStart => exact ⟨(0), (by first | rfl | (simp; done) | (simp [*]; done)), H', ⟨Nat.le_refl _⟩, by repeat (first | exact Drawn0.refl _ | apply Drawn0.step)⟩
  case round =>
   clear H'
   try clear c1
   try clear p2
   try clear c3
   try clear b2
   try clear b3
   try clear b4
   obtain ⟨a2, rfl, HA, d0, ⟨m1, rfl⟩⟩ := hrel
   cases gk with
   | zero => exact absurd HA.out (by simp [stanzaref07_Same.l0])
   | succ k1 =>
    have H := HA.out
    clear HA
    simp only [stanzaref07_Same.l0] at H
    by_cases c4 : a2 < (l0.length : Int)
    ·rw [if_pos c4] at H
     have d1 : decide (a2 < (l0.length : Int)) = true := decide_eq_true c4
     clear c4
     by_cases c5 : 0 ≤ a2
     ·rw [if_pos c5] at H
      have d4 : decide (0 ≤ a2) = true := decide_eq_true c5
      clear c5
      by_cases c6 : a2 < (l1.length : Int)
      ·rw [if_pos c6] at H
       have d5 : decide (a2 < (l1.length : Int)) = true := decide_eq_true c6
       clear c6
       by_cases c7 : (rd l0 a2) = (rd l1 a2)
       ·rw [if_pos c7] at H
        have d2 : ((rd l0 a2) == (rd l1 a2)) = true := beq_iff_eq.mpr c7
        have d3 : ((rd l0 a2) != (rd l1 a2)) = false := bne_eq_false_iff_eq.mpr c7
        clear c7
        have H' := Aside0.mk H
        clear H
        have a3 : 0 ≤ (a2 : Int) := of_decide_eq_true (by first | (with_reducible assumption) | assumption)
        have a4 : a2 < (l0.length : Int) := of_decide_eq_true (by first | (with_reducible assumption) | assumption)
        obtain ⟨b5, a8, b0⟩ := Kd.at_int c8.out a2 a3 a4
        cases a8
        replace a3 := eq_true a3
        replace a4 := eq_true a4
        have a5 : 0 ≤ (a2 : Int) := of_decide_eq_true (by first | (with_reducible assumption) | assumption)
        have a6 : a2 < (l1.length : Int) := of_decide_eq_true (by first | (with_reducible assumption) | assumption)
        obtain ⟨b6, a9, b1⟩ := Kd.at_int c9.out a2 a5 a6
        cases a9
        replace a5 := eq_true a5
        replace a6 := eq_true a6
        go_wp2
        repeat (go_quiet (fail); try go_wp2)
        go_roundg k1
        case measure => have := d0.out; omega
        case rel => exact ⟨(wrap64 (a2 + 1)), (by first | rfl | (simp; done) | (simp [*]; done)), H', ⟨by have := d0.out; omega⟩, by repeat (first | exact Drawn0.refl _ | apply Drawn0.step)⟩
       ·rw [if_neg c7] at H
        have d2 : ((rd l0 a2) == (rd l1 a2)) = false := beq_eq_false_iff_ne.mpr c7
        have d3 : ((rd l0 a2) != (rd l1 a2)) = true := bne_iff_ne.mpr c7
        obtain rfl := Option.some.inj H
        have a3 : 0 ≤ (a2 : Int) := of_decide_eq_true (by first | (with_reducible assumption) | assumption)
        have a4 : a2 < (l0.length : Int) := of_decide_eq_true (by first | (with_reducible assumption) | assumption)
        obtain ⟨b5, a8, b0⟩ := Kd.at_int c8.out a2 a3 a4
        cases a8
        replace a3 := eq_true a3
        replace a4 := eq_true a4
        have a5 : 0 ≤ (a2 : Int) := of_decide_eq_true (by first | (with_reducible assumption) | assumption)
        have a6 : a2 < (l1.length : Int) := of_decide_eq_true (by first | (with_reducible assumption) | assumption)
        obtain ⟨b6, a9, b1⟩ := Kd.at_int c9.out a2 a5 a6
        cases a9
        replace a5 := eq_true a5
        replace a6 := eq_true a6
        go_wp2
        repeat (go_quiet (fail); try go_wp2)
        go_ret
        exact ⟨by first | rfl | (simp; done) | (simp [*]; done), by repeat (first | exact Drawn0.refl _ | apply Drawn0.step)⟩
      ·rw [if_neg c6] at H
       exact absurd H (by simp)
     ·rw [if_neg c5] at H
      exact absurd H (by simp)
    ·rw [if_neg c4] at H
     have d1 : decide (a2 < (l0.length : Int)) = false := decide_eq_false c4
     clear c4
     obtain rfl := Option.some.inj H
     go_wp2
     repeat (go_quiet (fail); try go_wp2)
     go_ret
     exact ⟨by first | rfl | (simp; done) | (simp [*]; done), by repeat (first | exact Drawn0.refl _ | apply Drawn0.step)⟩
 ·rw [if_neg c3] at H
  have b2 : ((l0.length : Int) == (l1.length : Int)) = false := beq_eq_false_iff_ne.mpr c3
  have b3 : ((l0.length : Int) != (l1.length : Int)) = true := bne_iff_ne.mpr c3
  have b4 : (l0.length == l1.length) = false := by first | simpa using c3 | (simp at c3 ⊢; omega)
  obtain rfl := Option.some.inj H
  go_enter Try.func38, Try.ntmps38
  go_wp2
  repeat (go_quiet (fail); try go_wp2)
  go_ret
  exact ⟨by first | rfl | (simp; done) | (simp [*]; done), by repeat (first | exact Drawn0.refl _ | apply Drawn0.step)⟩
end Go.Proofs.Ytoefjhdcipgacaa.PA
end
section
namespace Go.Proofs.Ytoefjhdcipgacaa.Lf
open Go.RowKit Go.Proofs.YtoefjhdcipgacaaW.PrintWords Go.Proofs.YtoefjhdcipgacaaW.PrintLast Go.Proofs.YtoefjhdcipgacaaW.PrintMore
open Go.Proofs.Ytoefjhdcipgacaa.PA
theorem wrap_nat {i n : Nat} (h : i < n) (hn : n ≤ 9223372036854775807) : wrap64 ((i : Int) + 1) = ((i + 1 : Nat) : Int) := by
 unfold wrap64
 omega
theorem rd_nat {xs : List Int} {i : Nat} (h : i < xs.length) : rd xs (i : Int) = xs[i] := by
 simp [rd, List.getD_eq_getElem?_getD, List.getElem?_eq_getElem h]
theorem same_l0 (a b : List Int) (hl : a.length = b.length) (hm : a.length ≤ 9223372036854775807) (d : Nat) : ∀ i : Nat, i + d = a.length → stanzaref07_Same.l0 (d + 1) a b (i : Int) = some (decide (a.drop i = b.drop i)) := by
 induction d with
 | zero =>
  intro i hi
  simp only [stanzaref07_Same.l0]
  rw [if_neg (by omega), List.drop_of_length_le (by omega), List.drop_of_length_le (by omega)]
  rfl
 | succ d ih =>
  intro i hi
  have h1 : i < a.length := by omega
  have h2 : i < b.length := by omega
  have hiff : a.drop i = b.drop i ↔ a[i] = b[i] ∧ a.drop (i + 1) = b.drop (i + 1) := by
   rw [List.drop_eq_getElem_cons h1, List.drop_eq_getElem_cons h2, List.cons.injEq]
  rw [stanzaref07_Same.l0, if_pos (by omega), if_pos (by omega), if_pos (by omega), rd_nat h1, rd_nat h2, wrap_nat h1 hm, (show decide (a.drop i = b.drop i) = decide (a[i] = b[i] ∧ a.drop (i + 1) = b.drop (i + 1)) from decide_eq_decide.2 hiff)]
  by_cases e : a[i] = b[i]
  ·rw [if_pos e, ih (i + 1) (by omega)]
   congr 1
   rw [decide_eq_decide]
   exact ⟨fun h => ⟨e, h⟩, fun h => h.2⟩
  ·rw [if_neg e]
   congr 1
   symm
   rw [decide_eq_false_iff_not]
   exact fun h => e h.1
theorem same_f (a b : List Int) (hm : a.length ≤ 9223372036854775807) : stanzaref07_Same.f (a.length + 1) a b = some (decide (a = b)) := by
 unfold stanzaref07_Same.f
 by_cases hl : a.length = b.length
 ·rw [if_pos (by omega)]
  have := same_l0 a b hl hm a.length 0 (by omega)
  simpa using this
 ·rw [if_neg (by omega)]
  congr 1
  symm
  rw [decide_eq_false_iff_not]
  rintro rfl
  exact hl rfl
theorem same_calls (A0 : Option Addr) (c0 : Nat) (a : List Int) (A1 : Option Addr) (c1 : Nat) (b : List Int) (w : World) (hr0 : Kd.C (Kd.int .i32) w A0 a.length a) (hc0 : a.length ≤ c0) (hr1 : Kd.C (Kd.int .i32) w A1 b.length b) (hc1 : b.length ≤ c1) :
  Calls Try.prog 38 #[.slice A0 a.length c0, .slice A1 b.length c1] w fun e w' => e = .returned (.bool (decide (a = b))) ∧ Drawn0 w w' :=
 stanzaref07_Same.calls _ A0 c0 a A1 c1 b _ w hr0 hc0 hr1 hc1 (same_f a b (Kd.C_max hr0))
end Go.Proofs.Ytoefjhdcipgacaa.Lf
end
section
namespace Go.Proofs.Ytoefjhdcipgacaa.PA
open Go.RowKit Go.Proofs.YtoefjhdcipgacaaW.PrintWords Go.Proofs.YtoefjhdcipgacaaW.PrintLast Go.Proofs.YtoefjhdcipgacaaW.PrintMore
attribute [local go_sem] max2_int min2_int max_two min_two max_three min_three max_four min_four   -- for this text's walks alone
set_option linter.unusedVariables false
set_option linter.unusedSimpArgs false
def hyph_Check.l0 : Nat → Int → List (S63) → Int → Int → Option (Bool)
 | 0, _, _, _, _ => none
 | k + 1, x3, x9, e1, b5 => if b5 < e1 then (if 0 ≤ b5 then (if b5 < (x9.length : Int) then (if ((rd_T63 x9 b5).f0) ≤ x3 then (some false) else (if ((rd_T63 x9 b5).f1) < ((rd_T63 x9 b5).f0) then (some false) else (if ((rd_T63 x9 b5).f1) > 1114111 then (some false) else (if ((rd_T63 x9 b5).f2) < 0 then (some false) else (if ((rd_T63 x9 b5).f2) > (wrap64 (1114111 - (wrap64 (wrap32 (((rd_T63 x9 b5).f1) - ((rd_T63 x9 b5).f0)))))) then (some false) else (hyph_Check.l0 k ((rd_T63 x9 b5).f1) x9 e1 (wrap64 (b5 + 1)))))))) else (none)) else (none)) else (some true)
def hyph_Check.f (k : Nat) (l0 : List (S63)) : Option (Bool) := if (l0.length : Int) > 256 then (some false) else (hyph_Check.l0 k (-1) l0 (l0.length : Int) 0)
theorem hyph_Check.mono_l : ∀ k, (∀ y0 y1 y2 y3, LeO (hyph_Check.l0 k y0 y1 y2 y3) (hyph_Check.l0 (k + 1) y0 y1 y2 y3))
 | 0 => fun _ _ _ _ r h => by simp [hyph_Check.l0] at h
 | k + 1 => by
  have d0 := hyph_Check.mono_l k
  ·intro y0 y1 y2 y3
   unfold hyph_Check.l0
   repeat' first
   | (with_reducible exact d0 _ _ _ _)
   | (with_reducible exact LeO.refl _)
   | (with_reducible exact LeO.none _)
   | (with_reducible refine LeO.ite ?_ ?_)
   | (with_reducible refine LeO.bind ?_ (fun _ => ?_))
   | exact d0 _ _ _ _
   | exact LeO.none _
   | refine LeO.ite ?_ ?_
   | refine LeO.bind ?_ (fun _ => ?_)
theorem hyph_Check.mono : ∀ a0 k, LeO (hyph_Check.f k a0) (hyph_Check.f (k + 1) a0) := by
 intro a0 k
 have d0 := hyph_Check.mono_l k
 unfold hyph_Check.f
 repeat' first
   | (with_reducible exact d0 _ _ _ _)
   | (with_reducible exact LeO.refl _)
   | (with_reducible exact LeO.none _)
   | (with_reducible refine LeO.ite ?_ ?_)
   | (with_reducible refine LeO.bind ?_ (fun _ => ?_))
   | exact d0 _ _ _ _
   | exact LeO.none _
   | refine LeO.ite ?_ ?_
   | refine LeO.bind ?_ (fun _ => ?_)
set_option maxHeartbeats 8000000 in
set_option maxRecDepth 100000 in
theorem hyph_Check.calls (k : Nat) (A0 : Option Addr) (c0 : Nat) (l0 : List (S63)) (r : Bool) (w : World) (e2 : Kd.C k63 w A0 l0.length l0) (e3 : l0.length ≤ c0) (h : hyph_Check.f k l0 = some r) :
  Calls Try.prog 34 #[.slice A0 l0.length c0] w fun e w' => e = .returned (.bool r) ∧ Below w.heap.size w w' := by
 have hu63 := Try.underlying63
 have b9 := Aside0.mk e2
 have j0 := Aside0.mk e3
 clear e2 e3
 have HB := Aside0.mk (Below.refl w.heap.size w)
 have H : (if (l0.length : Int) > 256 then (some false) else (hyph_Check.l0 k (-1) l0 (l0.length : Int) 0)) = some r := h
 clear h
 by_cases c2 : (l0.length : Int) > 256
 ·rw [if_pos c2] at H
  have d1 : decide (256 < (l0.length : Int)) = true := decide_eq_true c2
  have d2 : decide (256 < l0.length) = true := decide_eq_true (by omega)
  clear c2
  obtain rfl := Option.some.inj H
  go_enter Try.func34, Try.ntmps34
  go_wp2
  go_ret
  exact ⟨by first | rfl | (simp [errW_none, errW_some] <;> rfl) | (simp [*, errW_none, errW_some] <;> rfl), by repeat (first | (with_reducible first | exact HB.out | apply below_alloc | apply pw_below_drewN | apply below_drew1) | exact HB.out)⟩
 ·rw [if_neg c2] at H
  have d1 : decide (256 < (l0.length : Int)) = false := decide_eq_false c2
  have d2 : decide (256 < l0.length) = false := decide_eq_false (by omega)
  clear c2
  have H' := Aside0.mk H
  clear H
  go_enter Try.func34, Try.ntmps34
  go_wp2
  go_loopg [3, 11] k (fun kq v3 i1 w' => ∃ (b8 : Int) (a1 : Int), v3 = .int .i32 b8 ∧ i1 = .int .i64 a1 ∧ Aside0 (hyph_Check.l0 kq b8 l0 (l0.length : Int) a1 = some r) ∧ Aside0 (kq ≤ k) ∧ Aside0 (Below w.heap.size w w'))
  case atStart => exact ⟨((-1)), (0), (by first | rfl | (simp; done) | (simp [*]; done)), (by first | rfl | (simp; done) | (simp [*]; done)), H', ⟨Nat.le_refl _⟩, ⟨by repeat (first | (with_reducible first | exact HB.out | apply below_alloc | apply pw_below_drewN | apply below_drew1) | exact HB.out)⟩⟩
  case round =>
   clear H'
   try clear c2
   try clear d1
   try clear d2
   try clear p2
   obtain ⟨b8, a1, rfl, rfl, HA, e4, HB⟩ := hrel
   cases gk with
   | zero => exact absurd HA.out (by simp [hyph_Check.l0])
   | succ k1 =>
    have H := HA.out
    clear HA
    simp only [hyph_Check.l0] at H
    by_cases c3 : a1 < (l0.length : Int)
    ·rw [if_pos c3] at H
     have e5 : decide (a1 < (l0.length : Int)) = true := decide_eq_true c3
     clear c3
     by_cases c4 : 0 ≤ a1
     ·rw [if_pos c4] at H
      have i8 : decide (0 ≤ a1) = true := decide_eq_true c4
      clear c4
      by_cases c5 : a1 < (l0.length : Int)
      ·rw [if_pos c5] at H
       have i9 : decide (a1 < (l0.length : Int)) = true := decide_eq_true c5
       clear c5
       by_cases c6 : ((rd_T63 l0 a1).f0) ≤ b8
       ·rw [if_pos c6] at H
        have e6 : decide (((rd_T63 l0 a1).f0) ≤ b8) = true := decide_eq_true c6
        clear c6
        obtain rfl := Option.some.inj H
        have a7 : 0 ≤ (a1 : Int) := of_decide_eq_true (by first | (with_reducible assumption) | assumption)
        have a8 : a1 < (l0.length : Int) := of_decide_eq_true (by first | (with_reducible assumption) | assumption)
        obtain ⟨b6, b4, a4, a5, a6⟩ := at_T63 b9.out a1 a7 a8
        cases b4
        replace a4 := (HB.out.cell (World.block_lt_of_cell? w _ a4)).trans a4
        replace a5 := (HB.out.cell (World.block_lt_of_cell? w _ a5)).trans a5
        replace a6 := (HB.out.cell (World.block_lt_of_cell? w _ a6)).trans a6
        replace a7 := eq_true a7
        replace a8 := eq_true a8
        go_wp2_with (first | ((with_reducible refine gate_dst (N := 5) rfl ?_); refine box_event ?hg (N := 5) ?hd (cs := #[.int .i32 0, .int .i32 0, .int .i64 0]) (t := 63) ?hr ?_; (case hd => rfl); (case hg => rfl); (case hr => first | (go_simp; done) | (go_simp; rfl)); intro a3 hg w7 hbox hb; have b0 := Aside0.mk (below_step (by repeat (first | (with_reducible first | exact HB.out | apply below_alloc | apply pw_below_drewN | apply below_drew1) | exact HB.out)) hb); have b1 := Aside0.mk (hbox); have b2 := Aside0.mk ((by rw [hg]; exact (below_size (by repeat (first | (with_reducible first | exact HB.out | apply below_alloc | apply pw_below_drewN | apply below_drew1) | exact HB.out))) : w.heap.size ≤ a3)); have b3 := Aside0.mk ((by rw [hg]; exact (below_size (by repeat (first | (with_reducible first | exact HB.out | apply below_alloc | apply pw_below_drewN | apply below_drew1) | exact HB.out))) : w.heap.size ≤ a3)); clear HB; have HB := b0; have a2 := b1; have b7 := b2; have a9 := b3; clear b0 b1 b2 b3; clear hb hbox hg; have i2 : w7.cell? ⟨a3, 0, none⟩ = some (.int .i32 0) := (blk_cell a2.out 0).trans rfl; have i3 : w7.cell? ⟨a3, 1, none⟩ = some (.int .i32 0) := (blk_cell a2.out 1).trans rfl; have i4 : w7.cell? ⟨a3, 2, none⟩ = some (.int .i64 0) := (blk_cell a2.out 2).trans rfl; have i5 := blk_frozen a2.out 0; have i6 := blk_frozen a2.out 1; have i7 := blk_frozen a2.out 2))
        go_ret
        exact ⟨by first | rfl | (simp [errW_none, errW_some] <;> rfl) | (simp [*, errW_none, errW_some] <;> rfl), by repeat (first | (with_reducible first | exact HB.out | apply below_alloc | apply pw_below_drewN | apply below_drew1 | refine below_set ?_ a9.out) | exact HB.out)⟩
       ·rw [if_neg c6] at H
        have e6 : decide (((rd_T63 l0 a1).f0) ≤ b8) = false := decide_eq_false c6
        clear c6
        by_cases c9 : ((rd_T63 l0 a1).f1) < ((rd_T63 l0 a1).f0)
        ·rw [if_pos c9] at H
         have e7 : decide (((rd_T63 l0 a1).f1) < ((rd_T63 l0 a1).f0)) = true := decide_eq_true c9
         clear c9
         obtain rfl := Option.some.inj H
         have a7 : 0 ≤ (a1 : Int) := of_decide_eq_true (by first | (with_reducible assumption) | assumption)
         have a8 : a1 < (l0.length : Int) := of_decide_eq_true (by first | (with_reducible assumption) | assumption)
         obtain ⟨b6, b4, a4, a5, a6⟩ := at_T63 b9.out a1 a7 a8
         cases b4
         replace a4 := (HB.out.cell (World.block_lt_of_cell? w _ a4)).trans a4
         replace a5 := (HB.out.cell (World.block_lt_of_cell? w _ a5)).trans a5
         replace a6 := (HB.out.cell (World.block_lt_of_cell? w _ a6)).trans a6
         replace a7 := eq_true a7
         replace a8 := eq_true a8
         go_wp2_with (first | ((with_reducible refine gate_dst (N := 5) rfl ?_); refine box_event ?hg (N := 5) ?hd (cs := #[.int .i32 0, .int .i32 0, .int .i64 0]) (t := 63) ?hr ?_; (case hd => rfl); (case hg => rfl); (case hr => first | (go_simp; done) | (go_simp; rfl)); intro a3 hg d3 hbox hb; have b0 := Aside0.mk (below_step (by repeat (first | (with_reducible first | exact HB.out | apply below_alloc | apply pw_below_drewN | apply below_drew1) | exact HB.out)) hb); have b1 := Aside0.mk (hbox); have b2 := Aside0.mk ((by rw [hg]; exact (below_size (by repeat (first | (with_reducible first | exact HB.out | apply below_alloc | apply pw_below_drewN | apply below_drew1) | exact HB.out))) : w.heap.size ≤ a3)); have b3 := Aside0.mk ((by rw [hg]; exact (below_size (by repeat (first | (with_reducible first | exact HB.out | apply below_alloc | apply pw_below_drewN | apply below_drew1) | exact HB.out))) : w.heap.size ≤ a3)); clear HB; have HB := b0; have a2 := b1; have b7 := b2; have a9 := b3; clear b0 b1 b2 b3; clear hb hbox hg; have e8 : d3.cell? ⟨a3, 0, none⟩ = some (.int .i32 0) := (blk_cell a2.out 0).trans rfl; have e9 : d3.cell? ⟨a3, 1, none⟩ = some (.int .i32 0) := (blk_cell a2.out 1).trans rfl; have f3 : d3.cell? ⟨a3, 2, none⟩ = some (.int .i64 0) := (blk_cell a2.out 2).trans rfl; have f4 := blk_frozen a2.out 0; have f5 := blk_frozen a2.out 1; have f6 := blk_frozen a2.out 2))
         go_ret
         exact ⟨by first | rfl | (simp [errW_none, errW_some] <;> rfl) | (simp [*, errW_none, errW_some] <;> rfl), by repeat (first | (with_reducible first | exact HB.out | apply below_alloc | apply pw_below_drewN | apply below_drew1 | refine below_set ?_ a9.out) | exact HB.out)⟩
        ·rw [if_neg c9] at H
         have e7 : decide (((rd_T63 l0 a1).f1) < ((rd_T63 l0 a1).f0)) = false := decide_eq_false c9
         clear c9
         by_cases c1 : ((rd_T63 l0 a1).f1) > 1114111
         ·rw [if_pos c1] at H
          have d8 : decide (1114111 < ((rd_T63 l0 a1).f1)) = true := decide_eq_true c1
          clear c1
          obtain rfl := Option.some.inj H
          have a7 : 0 ≤ (a1 : Int) := of_decide_eq_true (by first | (with_reducible assumption) | assumption)
          have a8 : a1 < (l0.length : Int) := of_decide_eq_true (by first | (with_reducible assumption) | assumption)
          obtain ⟨b6, b4, a4, a5, a6⟩ := at_T63 b9.out a1 a7 a8
          cases b4
          replace a4 := (HB.out.cell (World.block_lt_of_cell? w _ a4)).trans a4
          replace a5 := (HB.out.cell (World.block_lt_of_cell? w _ a5)).trans a5
          replace a6 := (HB.out.cell (World.block_lt_of_cell? w _ a6)).trans a6
          replace a7 := eq_true a7
          replace a8 := eq_true a8
          go_wp2_with (first | ((with_reducible refine gate_dst (N := 5) rfl ?_); refine box_event ?hg (N := 5) ?hd (cs := #[.int .i32 0, .int .i32 0, .int .i64 0]) (t := 63) ?hr ?_; (case hd => rfl); (case hg => rfl); (case hr => first | (go_simp; done) | (go_simp; rfl)); intro a3 hg d4 hbox hb; have b0 := Aside0.mk (below_step (by repeat (first | (with_reducible first | exact HB.out | apply below_alloc | apply pw_below_drewN | apply below_drew1) | exact HB.out)) hb); have b1 := Aside0.mk (hbox); have b2 := Aside0.mk ((by rw [hg]; exact (below_size (by repeat (first | (with_reducible first | exact HB.out | apply below_alloc | apply pw_below_drewN | apply below_drew1) | exact HB.out))) : w.heap.size ≤ a3)); have b3 := Aside0.mk ((by rw [hg]; exact (below_size (by repeat (first | (with_reducible first | exact HB.out | apply below_alloc | apply pw_below_drewN | apply below_drew1) | exact HB.out))) : w.heap.size ≤ a3)); clear HB; have HB := b0; have a2 := b1; have b7 := b2; have a9 := b3; clear b0 b1 b2 b3; clear hb hbox hg; have f7 : d4.cell? ⟨a3, 0, none⟩ = some (.int .i32 0) := (blk_cell a2.out 0).trans rfl; have f8 : d4.cell? ⟨a3, 1, none⟩ = some (.int .i32 0) := (blk_cell a2.out 1).trans rfl; have f9 : d4.cell? ⟨a3, 2, none⟩ = some (.int .i64 0) := (blk_cell a2.out 2).trans rfl; have g0 := blk_frozen a2.out 0; have g1 := blk_frozen a2.out 1; have g2 := blk_frozen a2.out 2))
          go_ret
          exact ⟨by first | rfl | (simp [errW_none, errW_some] <;> rfl) | (simp [*, errW_none, errW_some] <;> rfl), by repeat (first | (with_reducible first | exact HB.out | apply below_alloc | apply pw_below_drewN | apply below_drew1 | refine below_set ?_ a9.out) | exact HB.out)⟩
         ·rw [if_neg c1] at H
          have d8 : decide (1114111 < ((rd_T63 l0 a1).f1)) = false := decide_eq_false c1
          clear c1
          by_cases c7 : ((rd_T63 l0 a1).f2) < 0
          ·rw [if_pos c7] at H
           have d9 : decide (((rd_T63 l0 a1).f2) < 0) = true := decide_eq_true c7
           clear c7
           obtain rfl := Option.some.inj H
           have a7 : 0 ≤ (a1 : Int) := of_decide_eq_true (by first | (with_reducible assumption) | assumption)
           have a8 : a1 < (l0.length : Int) := of_decide_eq_true (by first | (with_reducible assumption) | assumption)
           obtain ⟨b6, b4, a4, a5, a6⟩ := at_T63 b9.out a1 a7 a8
           cases b4
           replace a4 := (HB.out.cell (World.block_lt_of_cell? w _ a4)).trans a4
           replace a5 := (HB.out.cell (World.block_lt_of_cell? w _ a5)).trans a5
           replace a6 := (HB.out.cell (World.block_lt_of_cell? w _ a6)).trans a6
           replace a7 := eq_true a7
           replace a8 := eq_true a8
           go_wp2_with (first | ((with_reducible refine gate_dst (N := 5) rfl ?_); refine box_event ?hg (N := 5) ?hd (cs := #[.int .i32 0, .int .i32 0, .int .i64 0]) (t := 63) ?hr ?_; (case hd => rfl); (case hg => rfl); (case hr => first | (go_simp; done) | (go_simp; rfl)); intro a3 hg d5 hbox hb; have b0 := Aside0.mk (below_step (by repeat (first | (with_reducible first | exact HB.out | apply below_alloc | apply pw_below_drewN | apply below_drew1) | exact HB.out)) hb); have b1 := Aside0.mk (hbox); have b2 := Aside0.mk ((by rw [hg]; exact (below_size (by repeat (first | (with_reducible first | exact HB.out | apply below_alloc | apply pw_below_drewN | apply below_drew1) | exact HB.out))) : w.heap.size ≤ a3)); have b3 := Aside0.mk ((by rw [hg]; exact (below_size (by repeat (first | (with_reducible first | exact HB.out | apply below_alloc | apply pw_below_drewN | apply below_drew1) | exact HB.out))) : w.heap.size ≤ a3)); clear HB; have HB := b0; have a2 := b1; have b7 := b2; have a9 := b3; clear b0 b1 b2 b3; clear hb hbox hg; have g3 : d5.cell? ⟨a3, 0, none⟩ = some (.int .i32 0) := (blk_cell a2.out 0).trans rfl; have g4 : d5.cell? ⟨a3, 1, none⟩ = some (.int .i32 0) := (blk_cell a2.out 1).trans rfl; have g5 : d5.cell? ⟨a3, 2, none⟩ = some (.int .i64 0) := (blk_cell a2.out 2).trans rfl; have g6 := blk_frozen a2.out 0; have g7 := blk_frozen a2.out 1; have g8 := blk_frozen a2.out 2))
           go_ret
           exact ⟨by first | rfl | (simp [errW_none, errW_some] <;> rfl) | (simp [*, errW_none, errW_some] <;> rfl), by repeat (first | (with_reducible first | exact HB.out | apply below_alloc | apply pw_below_drewN | apply below_drew1 | refine below_set ?_ a9.out) | exact HB.out)⟩
          ·rw [if_neg c7] at H
           have d9 : decide (((rd_T63 l0 a1).f2) < 0) = false := decide_eq_false c7
           clear c7
           by_cases c8 : ((rd_T63 l0 a1).f2) > (wrap64 (1114111 - (wrap64 (wrap32 (((rd_T63 l0 a1).f1) - ((rd_T63 l0 a1).f0))))))
           ·rw [if_pos c8] at H
            have e0 : decide ((wrap64 (1114111 - (wrap64 (wrap32 (((rd_T63 l0 a1).f1) - ((rd_T63 l0 a1).f0)))))) < ((rd_T63 l0 a1).f2)) = true := decide_eq_true c8
            clear c8
            obtain rfl := Option.some.inj H
            have a7 : 0 ≤ (a1 : Int) := of_decide_eq_true (by first | (with_reducible assumption) | assumption)
            have a8 : a1 < (l0.length : Int) := of_decide_eq_true (by first | (with_reducible assumption) | assumption)
            obtain ⟨b6, b4, a4, a5, a6⟩ := at_T63 b9.out a1 a7 a8
            cases b4
            replace a4 := (HB.out.cell (World.block_lt_of_cell? w _ a4)).trans a4
            replace a5 := (HB.out.cell (World.block_lt_of_cell? w _ a5)).trans a5
            replace a6 := (HB.out.cell (World.block_lt_of_cell? w _ a6)).trans a6
            replace a7 := eq_true a7
            replace a8 := eq_true a8
            go_wp2_with (first | ((with_reducible refine gate_dst (N := 5) rfl ?_); refine box_event ?hg (N := 5) ?hd (cs := #[.int .i32 0, .int .i32 0, .int .i64 0]) (t := 63) ?hr ?_; (case hd => rfl); (case hg => rfl); (case hr => first | (go_simp; done) | (go_simp; rfl)); intro a3 hg d6 hbox hb; have b0 := Aside0.mk (below_step (by repeat (first | (with_reducible first | exact HB.out | apply below_alloc | apply pw_below_drewN | apply below_drew1) | exact HB.out)) hb); have b1 := Aside0.mk (hbox); have b2 := Aside0.mk ((by rw [hg]; exact (below_size (by repeat (first | (with_reducible first | exact HB.out | apply below_alloc | apply pw_below_drewN | apply below_drew1) | exact HB.out))) : w.heap.size ≤ a3)); have b3 := Aside0.mk ((by rw [hg]; exact (below_size (by repeat (first | (with_reducible first | exact HB.out | apply below_alloc | apply pw_below_drewN | apply below_drew1) | exact HB.out))) : w.heap.size ≤ a3)); clear HB; have HB := b0; have a2 := b1; have b7 := b2; have a9 := b3; clear b0 b1 b2 b3; clear hb hbox hg; have g9 : d6.cell? ⟨a3, 0, none⟩ = some (.int .i32 0) := (blk_cell a2.out 0).trans rfl; have h0 : d6.cell? ⟨a3, 1, none⟩ = some (.int .i32 0) := (blk_cell a2.out 1).trans rfl; have h1 : d6.cell? ⟨a3, 2, none⟩ = some (.int .i64 0) := (blk_cell a2.out 2).trans rfl; have h2 := blk_frozen a2.out 0; have h3 := blk_frozen a2.out 1; have h4 := blk_frozen a2.out 2))
            go_ret
            exact ⟨by first | rfl | (simp [errW_none, errW_some] <;> rfl) | (simp [*, errW_none, errW_some] <;> rfl), by repeat (first | (with_reducible first | exact HB.out | apply below_alloc | apply pw_below_drewN | apply below_drew1 | refine below_set ?_ a9.out) | exact HB.out)⟩
           ·rw [if_neg c8] at H
            have e0 : decide ((wrap64 (1114111 - (wrap64 (wrap32 (((rd_T63 l0 a1).f1) - ((rd_T63 l0 a1).f0)))))) < ((rd_T63 l0 a1).f2)) = false := decide_eq_false c8
            clear c8
            have H' := Aside0.mk H
            clear H
            have a7 : 0 ≤ (a1 : Int) := of_decide_eq_true (by first | (with_reducible assumption) | assumption)
            have a8 : a1 < (l0.length : Int) := of_decide_eq_true (by first | (with_reducible assumption) | assumption)
            obtain ⟨b6, b4, a4, a5, a6⟩ := at_T63 b9.out a1 a7 a8
            cases b4
            replace a4 := (HB.out.cell (World.block_lt_of_cell? w _ a4)).trans a4
            replace a5 := (HB.out.cell (World.block_lt_of_cell? w _ a5)).trans a5
            replace a6 := (HB.out.cell (World.block_lt_of_cell? w _ a6)).trans a6
            replace a7 := eq_true a7
            replace a8 := eq_true a8
            go_wp2_with (first | ((with_reducible refine gate_dst (N := 5) rfl ?_); refine box_event ?hg (N := 5) ?hd (cs := #[.int .i32 0, .int .i32 0, .int .i64 0]) (t := 63) ?hr ?_; (case hd => rfl); (case hg => rfl); (case hr => first | (go_simp; done) | (go_simp; rfl)); intro a3 hg d7 hbox hb; have b0 := Aside0.mk (below_step (by repeat (first | (with_reducible first | exact HB.out | apply below_alloc | apply pw_below_drewN | apply below_drew1) | exact HB.out)) hb); have b1 := Aside0.mk (hbox); have b2 := Aside0.mk ((by rw [hg]; exact (below_size (by repeat (first | (with_reducible first | exact HB.out | apply below_alloc | apply pw_below_drewN | apply below_drew1) | exact HB.out))) : w.heap.size ≤ a3)); have b3 := Aside0.mk ((by rw [hg]; exact (below_size (by repeat (first | (with_reducible first | exact HB.out | apply below_alloc | apply pw_below_drewN | apply below_drew1) | exact HB.out))) : w.heap.size ≤ a3)); clear HB; have HB := b0; have a2 := b1; have b7 := b2; have a9 := b3; clear b0 b1 b2 b3; clear hb hbox hg; have h5 : d7.cell? ⟨a3, 0, none⟩ = some (.int .i32 0) := (blk_cell a2.out 0).trans rfl; have h6 : d7.cell? ⟨a3, 1, none⟩ = some (.int .i32 0) := (blk_cell a2.out 1).trans rfl; have h7 : d7.cell? ⟨a3, 2, none⟩ = some (.int .i64 0) := (blk_cell a2.out 2).trans rfl; have h8 := blk_frozen a2.out 0; have h9 := blk_frozen a2.out 1; have i0 := blk_frozen a2.out 2))
            go_roundg k1
            case measure => have := e4.out; omega
            case rel => exact ⟨((rd_T63 l0 a1).f1), (wrap64 (a1 + 1)), (by first | rfl | (simp; done) | (simp [*]; done)), (by first | rfl | (simp; done) | (simp [*]; done)), H', ⟨by have := e4.out; omega⟩, ⟨by repeat (first | (with_reducible first | exact HB.out | apply below_alloc | apply pw_below_drewN | apply below_drew1 | refine below_set ?_ a9.out) | exact HB.out)⟩⟩
      ·rw [if_neg c5] at H
       exact absurd H (by simp)
     ·rw [if_neg c4] at H
      exact absurd H (by simp)
    ·rw [if_neg c3] at H
     have e5 : decide (a1 < (l0.length : Int)) = false := decide_eq_false c3
     clear c3
     obtain rfl := Option.some.inj H
     go_wp2
     go_ret
     exact ⟨by first | rfl | (simp [errW_none, errW_some] <;> rfl) | (simp [*, errW_none, errW_some] <;> rfl), by repeat (first | (with_reducible first | exact HB.out | apply below_alloc | apply pw_below_drewN | apply below_drew1) | exact HB.out)⟩
end Go.Proofs.Ytoefjhdcipgacaa.PA
end
section
namespace Go.Proofs.Ytoefjhdcipgacaa.PA
open Go.RowKit Go.Proofs.YtoefjhdcipgacaaW.PrintWords Go.Proofs.YtoefjhdcipgacaaW.PrintLast Go.Proofs.YtoefjhdcipgacaaW.PrintMore
attribute [local go_sem] max2_int min2_int max_two min_two max_three min_three max_four min_four   -- for this text's walks alone
set_option linter.unusedVariables false
set_option linter.unusedSimpArgs false
def stanzalaw09_low.f  : Option ((List (S63))) := some (([(⟨97, 122, 97⟩ : S63)] : List (S63)))
set_option maxHeartbeats 8000000 in
set_option maxRecDepth 100000 in
theorem stanzalaw09_low.calls  (r : List (S63)) (w : World) (h : stanzalaw09_low.f  = some r) :
  Calls Try.prog 36 #[] w fun e w' => ∃ v0_ : Value, e = .returned (v0_) ∧ Kd.R k63 63 w' w.heap.size (fun _ => True) v0_ r ∧ Below w.heap.size w w' := by
 have hu63 := Try.underlying63
 have HB := Aside0.mk (Below.refl w.heap.size w)
 have H : (some (([(⟨97, 122, 97⟩ : S63)] : List (S63)))) = some r := h
 clear h
 obtain ⟨y228, hy228⟩ : ∃ y_ : List (S63), y_ = (([(⟨97, 122, 97⟩ : S63)] : List (S63))) := ⟨_, rfl⟩
 replace H : (some y228) = some r := by first | (rw [hy228]; with_reducible exact H) | (have H2_ := (Option.bind_some _ _).symm.trans H; rw [hy228]; with_reducible exact H2_) | (have H2_ := (Option.bind_some _ _).symm.trans H; with_reducible exact H2_) | with_reducible exact H | (rw [hy228]; exact H) | exact H
 have Ny228 := Aside0.mk hy228
 clear hy228
 obtain rfl := Option.some.inj H
 go_enter Try.func36, Try.ntmps36
 go_wp2_with (first | ((with_reducible refine gate_dst (N := 2) rfl ?_); refine Kd.R_lit k63 _ 63 ?hg (N := 2) ?hd (xs := ([(⟨97, 122, 97⟩ : S63)] : List (S63))) (inner := [.int .i32 97, .int .i32 122, .int .i64 97]) (ok := fun _ => True) (okp := fun _ => True) ?hr ?hp (fun _ hk => hk) trivial (Below.refl _ _) (Nat.le_refl _) (by simp) ?_; (case hd => rfl); (case hg => rfl); (case hr => first | (go_simp; done) | (go_simp; rfl)); (case hp => exact (Reps.c3 (show Kd.M k63 _ _ _ (⟨97, 122, 97⟩ : S63) [.int .i32 97, .int .i32 122, .int .i64 97] from (k63_mkM _ _ _ (⟨97, 122, 97⟩ : S63) )) (Reps.none _ _))); intro v229 w1 ho2 hb hg_ hnew_; clear hg_ hnew_; (first | rw [← Ny228.out] at ho2 | (simp only [Int.reduceToNat] at ho2; rw [← Ny228.out] at ho2)); have n0_ := Aside0.mk (Kd.R_lower ho2 (below_size (by repeat (first | (with_reducible first | exact HB.out | apply below_alloc | apply pw_below_drewN | apply below_drew1) | exact HB.out)))); have n1_ := Aside0.mk (below_step (by repeat (first | (with_reducible first | exact HB.out | apply below_alloc | apply pw_below_drewN | apply below_drew1) | exact HB.out)) hb); clear HB; have HO230 := n0_; have HB := n1_; clear n0_ n1_; clear hb ho2))
 go_ret
 exact ⟨_, by first | rfl | (simp [errW_none, errW_some] <;> rfl) | (simp [*, errW_none, errW_some] <;> rfl), by (with_reducible repeat (first | apply Kd.R_alloc | apply Kd.R_drewN | apply Kd.R_drew)); exact HO230.out, by repeat (first | (with_reducible first | exact HB.out | apply below_alloc | apply pw_below_drewN | apply below_drew1) | exact HB.out)⟩
end Go.Proofs.Ytoefjhdcipgacaa.PA
end
section
namespace Go.Proofs.Ytoefjhdcipgacaa.PA
open Go.RowKit Go.Proofs.YtoefjhdcipgacaaW.PrintWords Go.Proofs.YtoefjhdcipgacaaW.PrintLast Go.Proofs.YtoefjhdcipgacaaW.PrintMore
attribute [local go_sem] max2_int min2_int max_two min_two max_three min_three max_four min_four   -- for this text's walks alone
set_option linter.unusedVariables false
set_option linter.unusedSimpArgs false
def stanzalaw09_few.l0 : Nat → Bool → List Int → List Int → Int → Int → Option (List Int)
 | 0, _, _, _, _, _ => none
 | k + 1, x1, x5, x8, x9, b2 => if b2 < x9 then (if 0 ≤ b2 then (if b2 < (x8.length : Int) then (if b2 ≥ 80 then (some x5) else (if x1 = true then ((some (([97, 98, 99, 100] : List Int) : List Int)).bind fun a4 => (if 0 ≤ (((rd x8 b2) % 4294967296) % 4) then (if (((rd x8 b2) % 4294967296) % 4) < (a4.length : Int) then (if x5.length < 35184372088832 then (stanzalaw09_few.l0 k x1 (x5 ++ [rd a4 (((rd x8 b2) % 4294967296) % 4)]) x8 x9 (wrap64 (b2 + 1))) else (none)) else (none)) else (none))) else (if x5.length < 35184372088832 then (stanzalaw09_few.l0 k x1 (x5 ++ [rd x8 b2]) x8 x9 (wrap64 (b2 + 1))) else (none)))) else (none)) else (none)) else (some x5)
def stanzalaw09_few.f (k : Nat) (l0 : List Int) (a1 : Bool) : Option (List Int) := stanzalaw09_few.l0 k a1 ([] : List Int) l0 (l0.length : Int) 0
set_option maxHeartbeats 8000000 in
set_option maxRecDepth 100000 in
theorem stanzalaw09_few.calls (k : Nat) (A0 : Option Addr) (c0 : Nat) (l0 : List Int) (a1 : Bool) (r : List Int) (w : World) (e8 : Kd.C (Kd.int .i32) w A0 l0.length l0) (e9 : l0.length ≤ c0) (h : stanzalaw09_few.f k l0 a1 = some r) :
  Calls Try.prog 32 #[.slice A0 l0.length c0, .bool a1] w fun e w' => ∃ f0 : Value, e = .returned (f0) ∧ Kd.R (Kd.int .i32) 21 w' w.heap.size (fun _ => True) f0 r ∧ Below w.heap.size w w' := by
 have d7 := Aside0.mk e8
 have g6 := Aside0.mk e9
 clear e8 e9
 have HB := Aside0.mk (Below.refl w.heap.size w)
 have H : (stanzalaw09_few.l0 k a1 ([] : List Int) l0 (l0.length : Int) 0) = some r := h
 clear h
 have H' := Aside0.mk H
 clear H
 go_enter Try.func32, Try.ntmps32
 go_wp2
 go_loopg [5, 10] k (fun kq v5 f7 w' => ∃ (a5 : List Int) (a2 : Int), f7 = .int .i64 a2 ∧ Aside0 (stanzalaw09_few.l0 kq a1 a5 l0 (l0.length : Int) a2 = some r) ∧ Aside0 (kq ≤ k) ∧ Aside0 (Kd.R (Kd.int .i32) 21 w' w.heap.size (fun _ => True) v5 a5) ∧ Aside0 (Below w.heap.size w w'))
 case atStart => exact ⟨(([] : List Int)), (0), (by first | rfl | (simp; done) | (simp [*]; done)), H', ⟨Nat.le_refl _⟩, ⟨by first | exact Kd.R_nil _ _ _ _ _ | exact Kd.N_nil _ _ _ _ _ | exact Kd.V_nil _ _ _ _ _ | exact Kd.Q_nil _ _ _ _ _ | exact Kd.S_nil _ _ _ _ _⟩, ⟨by repeat (first | (with_reducible first | exact HB.out | apply below_alloc | apply pw_below_drewN | apply below_drew1) | exact HB.out)⟩⟩
 case round =>
  clear H'
  try clear p2
  obtain ⟨a5, a2, rfl, HA, d1, a8, HB⟩ := hrel
  cases gk with
  | zero => exact absurd HA.out (by simp [stanzalaw09_few.l0])
  | succ k1 =>
   have H := HA.out
   clear HA
   simp only [stanzalaw09_few.l0] at H
   by_cases c3 : a2 < (l0.length : Int)
   ·rw [if_pos c3] at H
    have f1 : decide (a2 < (l0.length : Int)) = true := decide_eq_true c3
    clear c3
    by_cases c4 : 0 ≤ a2
    ·rw [if_pos c4] at H
     have f9 : decide (0 ≤ a2) = true := decide_eq_true c4
     clear c4
     by_cases c5 : a2 < (l0.length : Int)
     ·rw [if_pos c5] at H
      have g0 : decide (a2 < (l0.length : Int)) = true := decide_eq_true c5
      clear c5
      by_cases c6 : a2 ≥ 80
      ·rw [if_pos c6] at H
       have f2 : decide (80 ≤ a2) = true := decide_eq_true c6
       clear c6
       obtain rfl := Option.some.inj H
       have a6 : 0 ≤ (a2 : Int) := of_decide_eq_true (by first | (with_reducible assumption) | assumption)
       have a7 : a2 < (l0.length : Int) := of_decide_eq_true (by first | (with_reducible assumption) | assumption)
       obtain ⟨d2, b9, a3⟩ := Kd.at_int d7.out a2 a6 a7
       cases b9
       replace a3 := (HB.out.cell (World.block_lt_of_cell? w _ a3)).trans a3
       replace a6 := eq_true a6
       replace a7 := eq_true a7
       go_wp2
       go_ret
       exact ⟨_, by first | rfl | (simp [errW_none, errW_some] <;> rfl) | (simp [*, errW_none, errW_some] <;> rfl), by (with_reducible repeat (first | apply Kd.R_alloc | apply Kd.R_drewN | apply Kd.R_drew)); exact a8.out, by repeat (first | (with_reducible first | exact HB.out | apply below_alloc | apply pw_below_drewN | apply below_drew1) | exact HB.out)⟩
      ·rw [if_neg c6] at H
       have f2 : decide (80 ≤ a2) = false := decide_eq_false c6
       clear c6
       by_cases c7 : a1 = true
       ·subst c7
        have H1 : ((some (([97, 98, 99, 100] : List Int) : List Int)).bind fun a4 => (if 0 ≤ (((rd l0 a2) % 4294967296) % 4) then (if (((rd l0 a2) % 4294967296) % 4) < (a4.length : Int) then (if a5.length < 35184372088832 then (stanzalaw09_few.l0 k1 true (a5 ++ [rd a4 (((rd l0 a2) % 4294967296) % 4)]) l0 (l0.length : Int) (wrap64 (a2 + 1))) else (none)) else (none)) else (none))) = some r := by rw [if_pos rfl] at H; exact H
        clear H
        have H := H1
        clear H1
        obtain ⟨a4, b3⟩ : ∃ y_ : List Int, y_ = (([97, 98, 99, 100] : List Int)) := ⟨_, rfl⟩
        replace H : (if 0 ≤ (((rd l0 a2) % 4294967296) % 4) then (if (((rd l0 a2) % 4294967296) % 4) < (a4.length : Int) then (if a5.length < 35184372088832 then (stanzalaw09_few.l0 k1 true (a5 ++ [rd a4 (((rd l0 a2) % 4294967296) % 4)]) l0 (l0.length : Int) (wrap64 (a2 + 1))) else (none)) else (none)) else (none)) = some r := by first | (rw [b3]; with_reducible exact H) | (have b0 := (Option.bind_some _ _).symm.trans H; rw [b3]; with_reducible exact b0) | (have b0 := (Option.bind_some _ _).symm.trans H; with_reducible exact b0) | with_reducible exact H | (rw [b3]; exact H) | exact H
        have d3 := Aside0.mk b3
        clear b3
        obtain ⟨a9, d8⟩ : ∃ j_ : Int, (((rd l0 a2) % 4294967296) % 4) = j_ := ⟨_, rfl⟩
        replace H : (if 0 ≤ (a9) then (if (a9) < (a4.length : Int) then (if a5.length < 35184372088832 then (stanzalaw09_few.l0 k1 true (a5 ++ [rd a4 (a9)]) l0 (l0.length : Int) (wrap64 (a2 + 1))) else (none)) else (none)) else (none)) = some r := by first | (rw [d8] at H; exact H) | (simp only [d8] at H ⊢; exact H)
        by_cases c9 : 0 ≤ (a9)
        ·rw [if_pos c9] at H
         have g1 : decide (0 ≤ (a9)) = true := decide_eq_true c9
         clear c9
         by_cases d4 : (a9) < (a4.length : Int)
         ·rw [if_pos d4] at H
          have f8 : decide ((a9) < (a4.length : Int)) = true := decide_eq_true d4
          clear d4
          by_cases d5 : a5.length < 35184372088832
          ·rw [if_pos d5] at H
           have e1 := Aside0.mk d5
           clear d5
           obtain ⟨d9, b4⟩ : ∃ y_ : List Int, y_ = (a5 ++ [rd a4 (a9)]) := ⟨_, rfl⟩
           replace H : (stanzalaw09_few.l0 k1 true d9 l0 (l0.length : Int) (wrap64 (a2 + 1))) = some r := by first | (rw [b4]; with_reducible exact H) | (have b0 := (Option.bind_some _ _).symm.trans H; rw [b4]; with_reducible exact b0) | (have b0 := (Option.bind_some _ _).symm.trans H; with_reducible exact b0) | with_reducible exact H | (rw [b4]; exact H) | exact H
           have e2 := Aside0.mk b4
           clear b4
           have H' := Aside0.mk H
           clear H
           have a6 : 0 ≤ (a2 : Int) := of_decide_eq_true (by first | (with_reducible assumption) | assumption)
           have a7 : a2 < (l0.length : Int) := of_decide_eq_true (by first | (with_reducible assumption) | assumption)
           obtain ⟨d2, b9, a3⟩ := Kd.at_int d7.out a2 a6 a7
           cases b9
           replace a3 := (HB.out.cell (World.block_lt_of_cell? w _ a3)).trans a3
           replace a6 := eq_true a6
           replace a7 := eq_true a7
           go_wp2_with (first | ((with_reducible refine gate_dst (N := 18) rfl ?_); refine Kd.R_lit (Kd.int .i32) _ 21 ?hg (N := 18) ?hd (xs := ([97, 98, 99, 100] : List Int)) (inner := [.int .i32 97, .int .i32 98, .int .i32 99, .int .i32 100]) (ok := fun _ => True) (okp := fun _ => True) ?hr ?hp (fun _ hk => hk) trivial (Below.refl _ _) (Nat.le_refl _) (by simp) ?_; (case hd => rfl); (case hg => rfl); (case hr => first | (go_simp; done) | (go_simp; rfl)); (case hp => exact (Reps.one (show Kd.M (Kd.int .i32) _ _ _ 97 [.int .i32 97] from rfl) (Reps.one (show Kd.M (Kd.int .i32) _ _ _ 98 [.int .i32 98] from rfl) (Reps.one (show Kd.M (Kd.int .i32) _ _ _ 99 [.int .i32 99] from rfl) (Reps.one (show Kd.M (Kd.int .i32) _ _ _ 100 [.int .i32 100] from rfl) (Reps.none _ _)))))); intro g2 g7 b6 hb hg_ hnew_; clear hg_ hnew_; (first | rw [← d3.out] at b6 | (simp only [Int.reduceToNat] at b6; rw [← d3.out] at b6)); have b7 := Aside0.mk (Kd.R_elder' (by (with_reducible repeat (first | apply Kd.R_alloc | apply Kd.R_drewN | apply Kd.R_drew)); exact a8.out) (Kd.R_base b6) hb); have b8 := Aside0.mk (Kd.R_lower (Kd.R_new' b6 (Kd.R_lt (by (with_reducible repeat (first | apply Kd.R_alloc | apply Kd.R_drewN | apply Kd.R_drew)); exact a8.out))) (below_size (by repeat (first | (with_reducible first | exact HB.out | apply below_alloc | apply pw_below_drewN | apply below_drew1) | exact HB.out)))); have c2 := Aside0.mk (below_step (by repeat (first | (with_reducible first | exact HB.out | apply below_alloc | apply pw_below_drewN | apply below_drew1) | exact HB.out)) hb); clear a8; clear HB; have a8 := b7; have b1 := b8; have HB := c2; clear b7 b8 c2; clear hb b6; obtain ⟨g3, f3, f4⟩ := Kd.R_slice b1.out; subst f4; have c8 : 0 ≤ ((a9) : Int) := of_decide_eq_true (by first | (with_reducible assumption) | assumption); have d0 : (a9) < (a4.length : Int) := of_decide_eq_true (by first | (with_reducible assumption) | assumption); obtain ⟨e3, f5, f6⟩ := Kd.at_int (Kd.R_reads' b1.out).2.2 (a9) c8 d0; cases f5; replace c8 := eq_true c8; replace d0 := eq_true d0) | ((with_reducible refine gate_builtin (b := .append) (xs := #[.tmp 24, .tmp 26]) rfl ?_); at_builtin; refine Kd.R_append (Kd.int .i32) (w0 := w) w.heap.size rfl (.tmp 24) (.tmp 26) 23 21 (.int .i32 0) 4 rfl Try.underlying23 info21 rfl (by decide) (by omega) u5 a5 (rd a4 (a9)) [.int .i32 (rd a4 (a9))] (fun k_ => some k_ ≠ (.slice (some e3) a4.length f3 : Value).ownBlock) (fun _ => False) rfl rfl ?aP (fun _ hk => hk.elim) ?aF ?aO ?aB ?aS ?aL ?_; (case aP => exact rfl); (case aB => exact (by repeat (first | (with_reducible first | exact HB.out | apply below_alloc | apply pw_below_drewN | apply below_drew1) | exact HB.out))); (case aF => exact (fun k_ hk => Kd.fresh' (Kd.R_lt (by (with_reducible repeat (first | apply Kd.R_alloc | apply Kd.R_drewN | apply Kd.R_drew)); exact b1.out)) k_ hk)); (case aO => exact (by (with_reducible repeat (first | apply Kd.R_alloc | apply Kd.R_drewN | apply Kd.R_drew)); exact Kd.R_mono a8.out (fun _ hk => hk.2))); (case aS => exact (below_size (by repeat (first | (with_reducible first | exact HB.out | apply below_alloc | apply pw_below_drewN | apply below_drew1) | exact HB.out)))); (case aL => have := e1.out; omega); intro g4 g8 ho hb hg hat; rw [← e2.out] at ho; have b7 := Aside0.mk (Kd.R_after (ok := (fun _ => True)) (by (with_reducible repeat (first | apply Kd.R_alloc | apply Kd.R_drewN | apply Kd.R_drew)); exact b1.out) hg hat); have b8 := Aside0.mk (hb); have c2 := Aside0.mk (ho); clear b1; clear HB; clear a8; have b1 := b7; have HB := b8; have e4 := c2; clear b7 b8 c2; clear ho hb hg hat))
           go_roundg k1
           case measure => have := d1.out; omega
           case rel => exact ⟨(d9), (wrap64 (a2 + 1)), (by first | rfl | (simp; done) | (simp [*]; done)), H', ⟨by have := d1.out; omega⟩, ⟨by (with_reducible repeat (first | apply Kd.R_alloc | apply Kd.R_drewN | apply Kd.R_drew)); exact Kd.R_mono e4.out (fun _ hk => trivial)⟩, ⟨by repeat (first | (with_reducible first | exact HB.out | apply below_alloc | apply pw_below_drewN | apply below_drew1) | exact HB.out)⟩⟩
          ·rw [if_neg d5] at H
           exact absurd H (by simp)
         ·rw [if_neg d4] at H
          exact absurd H (by simp)
        ·rw [if_neg c9] at H
         exact absurd H (by simp)
       ·replace c7 := Bool.eq_false_iff.mpr c7
        subst c7
        have H1 : (if a5.length < 35184372088832 then (stanzalaw09_few.l0 k1 false (a5 ++ [rd l0 a2]) l0 (l0.length : Int) (wrap64 (a2 + 1))) else (none)) = some r := by rw [if_neg (show ¬ (false = true) by decide)] at H; exact H
        clear H
        have H := H1
        clear H1
        by_cases d6 : a5.length < 35184372088832
        ·rw [if_pos d6] at H
         have e5 := Aside0.mk d6
         clear d6
         obtain ⟨e0, b5⟩ : ∃ y_ : List Int, y_ = (a5 ++ [rd l0 a2]) := ⟨_, rfl⟩
         replace H : (stanzalaw09_few.l0 k1 false e0 l0 (l0.length : Int) (wrap64 (a2 + 1))) = some r := by first | (rw [b5]; with_reducible exact H) | (have b0 := (Option.bind_some _ _).symm.trans H; rw [b5]; with_reducible exact b0) | (have b0 := (Option.bind_some _ _).symm.trans H; with_reducible exact b0) | with_reducible exact H | (rw [b5]; exact H) | exact H
         have e6 := Aside0.mk b5
         clear b5
         have H' := Aside0.mk H
         clear H
         have a6 : 0 ≤ (a2 : Int) := of_decide_eq_true (by first | (with_reducible assumption) | assumption)
         have a7 : a2 < (l0.length : Int) := of_decide_eq_true (by first | (with_reducible assumption) | assumption)
         obtain ⟨d2, b9, a3⟩ := Kd.at_int d7.out a2 a6 a7
         cases b9
         replace a3 := (HB.out.cell (World.block_lt_of_cell? w _ a3)).trans a3
         replace a6 := eq_true a6
         replace a7 := eq_true a7
         go_wp2_with (first | ((with_reducible refine gate_builtin (b := .append) (xs := #[.tmp 24, .tmp 26]) rfl ?_); at_builtin; refine Kd.R_append (Kd.int .i32) (w0 := w) w.heap.size rfl (.tmp 24) (.tmp 26) 23 21 (.int .i32 0) 4 rfl Try.underlying23 info21 rfl (by decide) (by omega) u5 a5 (rd l0 a2) [.int .i32 (rd l0 a2)] (fun _ => True) (fun _ => False) rfl rfl ?aP (fun _ hk => hk.elim) ?aF ?aO ?aB ?aS ?aL ?_; (case aP => exact rfl); (case aB => exact (by repeat (first | (with_reducible first | exact HB.out | apply below_alloc | apply pw_below_drewN | apply below_drew1) | exact HB.out))); (case aF => exact (fun _ _ => trivial)); (case aO => exact (by (with_reducible repeat (first | apply Kd.R_alloc | apply Kd.R_drewN | apply Kd.R_drew)); exact a8.out)); (case aS => exact (below_size (by repeat (first | (with_reducible first | exact HB.out | apply below_alloc | apply pw_below_drewN | apply below_drew1) | exact HB.out)))); (case aL => have := e5.out; omega); intro g5 g9 ho hb hg hat; rw [← e6.out] at ho; have b7 := Aside0.mk (hb); have b8 := Aside0.mk (ho); clear HB; clear a8; have HB := b7; have e7 := b8; clear b7 b8; clear ho hb hg hat))
         go_roundg k1
         case measure => have := d1.out; omega
         case rel => exact ⟨(e0), (wrap64 (a2 + 1)), (by first | rfl | (simp; done) | (simp [*]; done)), H', ⟨by have := d1.out; omega⟩, ⟨by (with_reducible repeat (first | apply Kd.R_alloc | apply Kd.R_drewN | apply Kd.R_drew)); exact e7.out⟩, ⟨by repeat (first | (with_reducible first | exact HB.out | apply below_alloc | apply pw_below_drewN | apply below_drew1) | exact HB.out)⟩⟩
        ·rw [if_neg d6] at H
         exact absurd H (by simp)
     ·rw [if_neg c5] at H
      exact absurd H (by simp)
    ·rw [if_neg c4] at H
     exact absurd H (by simp)
   ·rw [if_neg c3] at H
    have f1 : decide (a2 < (l0.length : Int)) = false := decide_eq_false c3
    clear c3
    obtain rfl := Option.some.inj H
    go_wp2
    go_ret
    exact ⟨_, by first | rfl | (simp [errW_none, errW_some] <;> rfl) | (simp [*, errW_none, errW_some] <;> rfl), by (with_reducible repeat (first | apply Kd.R_alloc | apply Kd.R_drewN | apply Kd.R_drew)); exact a8.out, by repeat (first | (with_reducible first | exact HB.out | apply below_alloc | apply pw_below_drewN | apply below_drew1) | exact HB.out)⟩
end Go.Proofs.Ytoefjhdcipgacaa.PA
end
section
namespace Go.Proofs.Ytoefjhdcipgacaa.PA
open Go.RowKit Go.Proofs.YtoefjhdcipgacaaW.PrintWords Go.Proofs.YtoefjhdcipgacaaW.PrintLast Go.Proofs.YtoefjhdcipgacaaW.PrintMore
attribute [local go_sem] max2_int min2_int max_two min_two max_three min_three max_four min_four   -- for this text's walks alone
set_option linter.unusedVariables false
set_option linter.unusedSimpArgs false
def stanzalaw09_letters.l0 : Nat → List (S63) → List (S63) → Int → Int → Option ((List (S63)))
 | 0, _, _, _, _ => none
 | k + 1, x0, x3, x4, x5 => if x5 < (x0.length : Int) then (if x5 < 50 then (if 0 ≤ x5 then (if x3.length < 8796093022208 then (stanzalaw09_letters.l0 k x0 (x3 ++ [(⟨wrap32 (wrap64 ((wrap64 (x4 + 1)) + ((((rd_T63 x0 x5).f0) % 4294967296) % 120))), wrap32 (wrap64 ((wrap64 ((wrap64 (x4 + 1)) + ((((rd_T63 x0 x5).f0) % 4294967296) % 120))) + ((((rd_T63 x0 x5).f1) % 4294967296) % 40))), wrap64 (Int.tmod (IntKind.u64.wrap ((rd_T63 x0 x5).f2)) 200)⟩ : S63)]) (wrap64 ((wrap64 ((wrap64 (x4 + 1)) + ((((rd_T63 x0 x5).f0) % 4294967296) % 120))) + ((((rd_T63 x0 x5).f1) % 4294967296) % 40))) (wrap64 (x5 + 1))) else (none)) else (none)) else (some x3)) else (some x3)
def stanzalaw09_letters.f (k : Nat) (l0 : List (S63)) : Option ((List (S63))) := stanzalaw09_letters.l0 k l0 ([] : List (S63)) (-1) 0
set_option maxHeartbeats 8000000 in
set_option maxRecDepth 100000 in
theorem stanzalaw09_letters.calls (k : Nat) (A0 : Option Addr) (c0 : Nat) (l0 : List (S63)) (r : List (S63)) (w : World) (d5 : Kd.C k63 w A0 l0.length l0) (d6 : l0.length ≤ c0) (h : stanzalaw09_letters.f k l0 = some r) :
  Calls Try.prog 25 #[.slice A0 l0.length c0] w fun e w' => ∃ d7 : Value, e = .returned (d7) ∧ Kd.R k63 63 w' w.heap.size (fun _ => True) d7 r ∧ Below w.heap.size w w' := by
 have hu63 := Try.underlying63
 have c8 := Aside0.mk d5
 have e9 := Aside0.mk d6
 clear d5 d6
 have HB := Aside0.mk (Below.refl w.heap.size w)
 have H : (stanzalaw09_letters.l0 k l0 ([] : List (S63)) (-1) 0) = some r := h
 clear h
 have H' := Aside0.mk H
 clear H
 go_enter Try.func25, Try.ntmps25
 go_wp2
 go_loopg [3, 4, 5] k (fun kq v3 v4 v5 w' => ∃ (a4 : List (S63)) (a2 : Int) (a1 : Int), v4 = .int .i64 a2 ∧ v5 = .int .i64 a1 ∧ Aside0 (stanzalaw09_letters.l0 kq l0 a4 a2 a1 = some r) ∧ Aside0 (kq ≤ k) ∧ Aside0 (Kd.R k63 63 w' w.heap.size (fun _ => True) v3 a4) ∧ Aside0 (Below w.heap.size w w'))
 case atStart => exact ⟨(([] : List (S63))), ((-1)), (0), (by first | rfl | (simp; done) | (simp [*]; done)), (by first | rfl | (simp; done) | (simp [*]; done)), H', ⟨Nat.le_refl _⟩, ⟨by first | exact Kd.R_nil _ _ _ _ _ | exact Kd.N_nil _ _ _ _ _ | exact Kd.V_nil _ _ _ _ _ | exact Kd.Q_nil _ _ _ _ _ | exact Kd.S_nil _ _ _ _ _⟩, ⟨by repeat (first | (with_reducible first | exact HB.out | apply below_alloc | apply pw_below_drewN | apply below_drew1) | exact HB.out)⟩⟩
 case round =>
  clear H'
  obtain ⟨a4, a2, a1, rfl, rfl, HA, d8, b4, HB⟩ := hrel
  cases gk with
  | zero => exact absurd HA.out (by simp [stanzalaw09_letters.l0])
  | succ k1 =>
   have H := HA.out
   clear HA
   simp only [stanzalaw09_letters.l0] at H
   by_cases c2 : a1 < (l0.length : Int)
   ·rw [if_pos c2] at H
    have e1 : decide (a1 < (l0.length : Int)) = true := decide_eq_true c2
    clear c2
    by_cases c3 : a1 < 50
    ·rw [if_pos c3] at H
     have e2 : decide (a1 < 50) = true := decide_eq_true c3
     clear c3
     by_cases c4 : 0 ≤ a1
     ·rw [if_pos c4] at H
      have e7 : decide (0 ≤ a1) = true := decide_eq_true c4
      clear c4
      by_cases c5 : a4.length < 8796093022208
      ·rw [if_pos c5] at H
       have e3 := Aside0.mk c5
       clear c5
       obtain ⟨c9, a3⟩ : ∃ y_ : List (S63), y_ = (a4 ++ [(⟨wrap32 (wrap64 ((wrap64 (a2 + 1)) + ((((rd_T63 l0 a1).f0) % 4294967296) % 120))), wrap32 (wrap64 ((wrap64 ((wrap64 (a2 + 1)) + ((((rd_T63 l0 a1).f0) % 4294967296) % 120))) + ((((rd_T63 l0 a1).f1) % 4294967296) % 40))), wrap64 (Int.tmod (IntKind.u64.wrap ((rd_T63 l0 a1).f2)) 200)⟩ : S63)]) := ⟨_, rfl⟩
       replace H : (stanzalaw09_letters.l0 k1 l0 c9 (wrap64 ((wrap64 ((wrap64 (a2 + 1)) + ((((rd_T63 l0 a1).f0) % 4294967296) % 120))) + ((((rd_T63 l0 a1).f1) % 4294967296) % 40))) (wrap64 (a1 + 1))) = some r := by first | (rw [a3]; with_reducible exact H) | (have d0 := (Option.bind_some _ _).symm.trans H; rw [a3]; with_reducible exact d0) | (have d0 := (Option.bind_some _ _).symm.trans H; with_reducible exact d0) | with_reducible exact H | (rw [a3]; exact H) | exact H
       have d1 := Aside0.mk a3
       clear a3
       have H' := Aside0.mk H
       clear H
       have b6 : 0 ≤ (a1 : Int) := of_decide_eq_true (by first | (with_reducible assumption) | assumption)
       have b7 : a1 < (l0.length : Int) := of_decide_eq_true (by first | (with_reducible assumption) | assumption)
       obtain ⟨c7, e4, a5, a6, a7⟩ := at_T63 c8.out a1 b6 b7
       cases e4
       replace a5 := (HB.out.cell (World.block_lt_of_cell? w _ a5)).trans a5
       replace a6 := (HB.out.cell (World.block_lt_of_cell? w _ a6)).trans a6
       replace a7 := (HB.out.cell (World.block_lt_of_cell? w _ a7)).trans a7
       replace b6 := eq_true b6
       replace b7 := eq_true b7
       have b8 : 0 ≤ (a1 : Int) := of_decide_eq_true (by first | (with_reducible assumption) | assumption)
       have b9 : a1 < (l0.length : Int) := of_decide_eq_true (by first | (with_reducible assumption) | assumption)
       obtain ⟨d2, e5, a8, a9, b0⟩ := at_T63 c8.out a1 b8 b9
       obtain rfl : c7 = d2 := (by injection e5)
       replace a8 := (HB.out.cell (World.block_lt_of_cell? w _ a8)).trans a8
       replace a9 := (HB.out.cell (World.block_lt_of_cell? w _ a9)).trans a9
       replace b0 := (HB.out.cell (World.block_lt_of_cell? w _ b0)).trans b0
       replace b8 := eq_true b8
       replace b9 := eq_true b9
       have c1 : 0 ≤ (a1 : Int) := of_decide_eq_true (by first | (with_reducible assumption) | assumption)
       have c6 : a1 < (l0.length : Int) := of_decide_eq_true (by first | (with_reducible assumption) | assumption)
       obtain ⟨d3, e6, b1, b2, b3⟩ := at_T63 c8.out a1 c1 c6
       obtain rfl : c7 = d3 := (by injection e6)
       replace b1 := (HB.out.cell (World.block_lt_of_cell? w _ b1)).trans b1
       replace b2 := (HB.out.cell (World.block_lt_of_cell? w _ b2)).trans b2
       replace b3 := (HB.out.cell (World.block_lt_of_cell? w _ b3)).trans b3
       replace c1 := eq_true c1
       replace c6 := eq_true c6
       go_wp2_with (first | ((with_reducible refine gate_builtin (b := .append) (xs := #[.tmp 39, .tmp 53]) rfl ?_); at_builtin; refine Kd.R_append k63 (w0 := w) w.heap.size rfl (.tmp 39) (.tmp 53) 41 63 (.agg #[(.int .i32 0), (.int .i32 0), (.int .i64 0)]) 16 rfl Try.underlying41 info63 rfl (by decide) (by omega) u3 a4 (⟨wrap32 (wrap64 ((wrap64 (a2 + 1)) + ((((rd_T63 l0 a1).f0) % 4294967296) % 120))), wrap32 (wrap64 ((wrap64 ((wrap64 (a2 + 1)) + ((((rd_T63 l0 a1).f0) % 4294967296) % 120))) + ((((rd_T63 l0 a1).f1) % 4294967296) % 40))), wrap64 (Int.tmod (IntKind.u64.wrap ((rd_T63 l0 a1).f2)) 200)⟩ : S63) [.int .i32 (wrap32 (wrap64 ((wrap64 (a2 + 1)) + ((((rd_T63 l0 a1).f0) % 4294967296) % 120)))), .int .i32 (wrap32 (wrap64 ((wrap64 ((wrap64 (a2 + 1)) + ((((rd_T63 l0 a1).f0) % 4294967296) % 120))) + ((((rd_T63 l0 a1).f1) % 4294967296) % 40)))), .int .i64 (wrap64 (Int.tmod (IntKind.u64.wrap ((rd_T63 l0 a1).f2)) 200))] (fun _ => True) (fun _ => False) rfl rfl ?aP (fun _ hk => hk.elim) ?aF ?aO ?aB ?aS ?aL ?_; (case aP => exact k63_mkM _ _ _ (⟨wrap32 (wrap64 ((wrap64 (a2 + 1)) + ((((rd_T63 l0 a1).f0) % 4294967296) % 120))), wrap32 (wrap64 ((wrap64 ((wrap64 (a2 + 1)) + ((((rd_T63 l0 a1).f0) % 4294967296) % 120))) + ((((rd_T63 l0 a1).f1) % 4294967296) % 40))), wrap64 (Int.tmod (IntKind.u64.wrap ((rd_T63 l0 a1).f2)) 200)⟩ : S63)); (case aB => exact (by repeat (first | (with_reducible first | exact HB.out | apply below_alloc | apply pw_below_drewN | apply below_drew1) | exact HB.out))); (case aF => exact (fun _ _ => trivial)); (case aO => exact (by (with_reducible repeat (first | apply Kd.R_alloc | apply Kd.R_drewN | apply Kd.R_drew)); exact b4.out)); (case aS => exact (below_size (by repeat (first | (with_reducible first | exact HB.out | apply below_alloc | apply pw_below_drewN | apply below_drew1) | exact HB.out)))); (case aL => have := e3.out; omega); intro e8 w6 ho hb hg hat; rw [← d1.out] at ho; have d9 := Aside0.mk (hb); have e0 := Aside0.mk (ho); clear HB; clear b4; have HB := d9; have d4 := e0; clear d9 e0; clear ho hb hg hat))
       go_roundg k1
       case measure => have := d8.out; omega
       case rel => exact ⟨(c9), (wrap64 ((wrap64 ((wrap64 (a2 + 1)) + ((((rd_T63 l0 a1).f0) % 4294967296) % 120))) + ((((rd_T63 l0 a1).f1) % 4294967296) % 40))), (wrap64 (a1 + 1)), (by first | rfl | (simp; done) | (simp [*]; done)), (by first | rfl | (simp; done) | (simp [*]; done)), H', ⟨by have := d8.out; omega⟩, ⟨by (with_reducible repeat (first | apply Kd.R_alloc | apply Kd.R_drewN | apply Kd.R_drew)); exact d4.out⟩, ⟨by repeat (first | (with_reducible first | exact HB.out | apply below_alloc | apply pw_below_drewN | apply below_drew1) | exact HB.out)⟩⟩
      ·rw [if_neg c5] at H
       exact absurd H (by simp)
     ·rw [if_neg c4] at H
      exact absurd H (by simp)
    ·rw [if_neg c3] at H
     have e2 : decide (a1 < 50) = false := decide_eq_false c3
     clear c3
     obtain rfl := Option.some.inj H
     go_wp2
     go_ret
     exact ⟨_, by first | rfl | (simp [errW_none, errW_some] <;> rfl) | (simp [*, errW_none, errW_some] <;> rfl), by (with_reducible repeat (first | apply Kd.R_alloc | apply Kd.R_drewN | apply Kd.R_drew)); exact b4.out, by repeat (first | (with_reducible first | exact HB.out | apply below_alloc | apply pw_below_drewN | apply below_drew1) | exact HB.out)⟩
   ·rw [if_neg c2] at H
    have e1 : decide (a1 < (l0.length : Int)) = false := decide_eq_false c2
    clear c2
    obtain rfl := Option.some.inj H
    go_wp2
    go_ret
    exact ⟨_, by first | rfl | (simp [errW_none, errW_some] <;> rfl) | (simp [*, errW_none, errW_some] <;> rfl), by (with_reducible repeat (first | apply Kd.R_alloc | apply Kd.R_drewN | apply Kd.R_drew)); exact b4.out, by repeat (first | (with_reducible first | exact HB.out | apply below_alloc | apply pw_below_drewN | apply below_drew1) | exact HB.out)⟩
end Go.Proofs.Ytoefjhdcipgacaa.PA
end
section
namespace Go.Proofs.Ytoefjhdcipgacaa.PA
open Go.RowKit Go.Proofs.YtoefjhdcipgacaaW.PrintWords Go.Proofs.YtoefjhdcipgacaaW.PrintLast Go.Proofs.YtoefjhdcipgacaaW.PrintMore
attribute [local go_sem] max2_int min2_int max_two min_two max_three min_three max_four min_four   -- for this text's walks alone
set_option linter.unusedVariables false
set_option linter.unusedSimpArgs false
def stanzaref07_Letter.l0 : Nat → List (S63) → Int → Int → Option (Int × Bool)
 | 0, _, _, _ => none
 | k + 1, x0, x1, x6 => if x6 < (x0.length : Int) then (if 0 ≤ x6 then (if ((rd_T63 x0 x6).f0) ≤ x1 then (if x1 ≤ ((rd_T63 x0 x6).f1) then (some (wrap32 (wrap64 ((wrap64 (((rd_T63 x0 x6).f2) + (wrap64 (x1)))) - (wrap64 ((rd_T63 x0 x6).f0)))), true)) else (stanzaref07_Letter.l0 k x0 x1 (wrap64 (x6 + 1)))) else (stanzaref07_Letter.l0 k x0 x1 (wrap64 (x6 + 1)))) else (none)) else (some (0, false))
def stanzaref07_Letter.f (k : Nat) (l0 : List (S63)) (a1 : Int) : Option (Int × Bool) := stanzaref07_Letter.l0 k l0 a1 0
set_option maxHeartbeats 8000000 in
set_option maxRecDepth 100000 in
theorem stanzaref07_Letter.calls (k : Nat) (A0 : Option Addr) (c0 : Nat) (l0 : List (S63)) (a1 : Int) (r1 : Int) (r2 : Bool) (w : World) (d1 : Kd.C k63 w A0 l0.length l0) (d2 : l0.length ≤ c0) (h : stanzaref07_Letter.f k l0 a1 = some (r1, r2)) :
  Calls Try.prog 40 #[.slice A0 l0.length c0, .int .i32 a1] w fun e w' => e = .returned (.tuple #[.int .i32 r1, .bool r2]) ∧ Drawn0 w w' := by
 have a8 := Aside0.mk d1
 have e5 := Aside0.mk d2
 clear d1 d2
 have H : (stanzaref07_Letter.l0 k l0 a1 0) = some (r1, r2) := h
 clear h
 have H' := Aside0.mk H
 clear H
 go_enter Try.func40, Try.ntmps40
 go_wp2
 repeat (go_quiet (fail); try go_wp2)
 go_loopg [6] k (fun kq v6 w' => ∃ (a2 : Int), v6 = .int .i64 a2 ∧ Aside0 (stanzaref07_Letter.l0 kq l0 a1 a2 = some (r1, r2)) ∧ Aside0 (kq ≤ k) ∧ Drawn0 w w')
 case atStart => exact ⟨(0), (by first | rfl | (simp; done) | (simp [*]; done)), H', ⟨Nat.le_refl _⟩, by repeat (first | exact Drawn0.refl _ | apply Drawn0.step)⟩
 case round =>
  clear H'
  try clear p2
  obtain ⟨a2, rfl, HA, c1, ⟨m1, rfl⟩⟩ := hrel
  cases gk with
  | zero => exact absurd HA.out (by simp [stanzaref07_Letter.l0])
  | succ k1 =>
   have H := HA.out
   clear HA
   simp only [stanzaref07_Letter.l0] at H
   by_cases c3 : a2 < (l0.length : Int)
   ·rw [if_pos c3] at H
    have d3 : decide (a2 < (l0.length : Int)) = true := decide_eq_true c3
    clear c3
    by_cases c4 : 0 ≤ a2
    ·rw [if_pos c4] at H
     have e4 : decide (0 ≤ a2) = true := decide_eq_true c4
     clear c4
     by_cases c5 : ((rd_T63 l0 a2).f0) ≤ a1
     ·rw [if_pos c5] at H
      have d4 : decide (((rd_T63 l0 a2).f0) ≤ a1) = true := decide_eq_true c5
      clear c5
      by_cases c6 : a1 ≤ ((rd_T63 l0 a2).f1)
      ·rw [if_pos c6] at H
       have d5 : decide (a1 ≤ ((rd_T63 l0 a2).f1)) = true := decide_eq_true c6
       clear c6
       simp only [Option.some.injEq, Prod.mk.injEq] at H
       obtain ⟨rfl, rfl⟩ := H
       have a3 : 0 ≤ (a2 : Int) := of_decide_eq_true (by first | (with_reducible assumption) | assumption)
       have a4 : a2 < (l0.length : Int) := of_decide_eq_true (by first | (with_reducible assumption) | assumption)
       obtain ⟨a5, a9, b0, b1, b2⟩ := at_T63 a8.out a2 a3 a4
       cases a9
       replace a3 := eq_true a3
       replace a4 := eq_true a4
       have a6 : 0 ≤ (a2 : Int) := of_decide_eq_true (by first | (with_reducible assumption) | assumption)
       have a7 : a2 < (l0.length : Int) := of_decide_eq_true (by first | (with_reducible assumption) | assumption)
       obtain ⟨b3, b5, c2, c7, c8⟩ := at_T63 a8.out a2 a6 a7
       obtain rfl : a5 = b3 := (by injection b5)
       replace a6 := eq_true a6
       replace a7 := eq_true a7
       have b6 : 0 ≤ (a2 : Int) := of_decide_eq_true (by first | (with_reducible assumption) | assumption)
       have b7 : a2 < (l0.length : Int) := of_decide_eq_true (by first | (with_reducible assumption) | assumption)
       obtain ⟨c9, d6, d8, d9, e0⟩ := at_T63 a8.out a2 b6 b7
       obtain rfl : a5 = c9 := (by injection d6)
       replace b6 := eq_true b6
       replace b7 := eq_true b7
       have b8 : 0 ≤ (a2 : Int) := of_decide_eq_true (by first | (with_reducible assumption) | assumption)
       have b9 : a2 < (l0.length : Int) := of_decide_eq_true (by first | (with_reducible assumption) | assumption)
       obtain ⟨d0, d7, e1, e2, e3⟩ := at_T63 a8.out a2 b8 b9
       obtain rfl : a5 = d0 := (by injection d7)
       replace b8 := eq_true b8
       replace b9 := eq_true b9
       go_wp2
       repeat (go_quiet (fail); try go_wp2)
       go_ret2
       exact ⟨by first | rfl | (simp; done) | (simp [*]; done), by repeat (first | exact Drawn0.refl _ | apply Drawn0.step)⟩
      ·rw [if_neg c6] at H
       have d5 : decide (a1 ≤ ((rd_T63 l0 a2).f1)) = false := decide_eq_false c6
       clear c6
       have H' := Aside0.mk H
       clear H
       have a3 : 0 ≤ (a2 : Int) := of_decide_eq_true (by first | (with_reducible assumption) | assumption)
       have a4 : a2 < (l0.length : Int) := of_decide_eq_true (by first | (with_reducible assumption) | assumption)
       obtain ⟨a5, a9, b0, b1, b2⟩ := at_T63 a8.out a2 a3 a4
       cases a9
       replace a3 := eq_true a3
       replace a4 := eq_true a4
       have a6 : 0 ≤ (a2 : Int) := of_decide_eq_true (by first | (with_reducible assumption) | assumption)
       have a7 : a2 < (l0.length : Int) := of_decide_eq_true (by first | (with_reducible assumption) | assumption)
       obtain ⟨b3, b5, c2, c7, c8⟩ := at_T63 a8.out a2 a6 a7
       obtain rfl : a5 = b3 := (by injection b5)
       replace a6 := eq_true a6
       replace a7 := eq_true a7
       go_wp2
       repeat (go_quiet (fail); try go_wp2)
       go_roundg k1
       case measure => have := c1.out; omega
       case rel => exact ⟨(wrap64 (a2 + 1)), (by first | rfl | (simp; done) | (simp [*]; done)), H', ⟨by have := c1.out; omega⟩, by repeat (first | exact Drawn0.refl _ | apply Drawn0.step)⟩
     ·rw [if_neg c5] at H
      have d4 : decide (((rd_T63 l0 a2).f0) ≤ a1) = false := decide_eq_false c5
      clear c5
      have H' := Aside0.mk H
      clear H
      have a3 : 0 ≤ (a2 : Int) := of_decide_eq_true (by first | (with_reducible assumption) | assumption)
      have a4 : a2 < (l0.length : Int) := of_decide_eq_true (by first | (with_reducible assumption) | assumption)
      obtain ⟨a5, a9, b0, b1, b2⟩ := at_T63 a8.out a2 a3 a4
      cases a9
      replace a3 := eq_true a3
      replace a4 := eq_true a4
      go_wp2
      repeat (go_quiet (fail); try go_wp2)
      go_roundg k1
      case measure => have := c1.out; omega
      case rel => exact ⟨(wrap64 (a2 + 1)), (by first | rfl | (simp; done) | (simp [*]; done)), H', ⟨by have := c1.out; omega⟩, by repeat (first | exact Drawn0.refl _ | apply Drawn0.step)⟩
    ·rw [if_neg c4] at H
     exact absurd H (by simp)
   ·rw [if_neg c3] at H
    have d3 : decide (a2 < (l0.length : Int)) = false := decide_eq_false c3
    clear c3
    simp only [Option.some.injEq, Prod.mk.injEq] at H
    obtain ⟨rfl, rfl⟩ := H
    go_wp2
    repeat (go_quiet (fail); try go_wp2)
    go_ret2
    exact ⟨by first | rfl | (simp; done) | (simp [*]; done), by repeat (first | exact Drawn0.refl _ | apply Drawn0.step)⟩
end Go.Proofs.Ytoefjhdcipgacaa.PA
end
section
namespace Go.Proofs.Ytoefjhdcipgacaa.PA
open Go.RowKit Go.Proofs.YtoefjhdcipgacaaW.PrintWords Go.Proofs.YtoefjhdcipgacaaW.PrintLast Go.Proofs.YtoefjhdcipgacaaW.PrintMore
attribute [local go_sem] max2_int min2_int max_two min_two max_three min_three max_four min_four   -- for this text's walks alone
set_option linter.unusedVariables false
set_option linter.unusedSimpArgs false
def stanzaref07_blank.f (a0 : Int) : Option (Bool) := if a0 = 32 then (some true) else (if a0 = 9 then (some true) else (if a0 = 10 then (some true) else (some (a0 == 13))))
set_option maxHeartbeats 8000000 in
set_option maxRecDepth 100000 in
theorem stanzaref07_blank.calls (a0 : Int) (r : Bool) (w : World) (h : stanzaref07_blank.f a0 = some r) :
  Calls Try.prog 56 #[.int .i32 a0] w fun e w' => e = .returned (.bool r) ∧ Drawn0 w w' := by
 have H : (if a0 = 32 then (some true) else (if a0 = 9 then (some true) else (if a0 = 10 then (some true) else (some (a0 == 13))))) = some r := h
 clear h
 by_cases c2 : a0 = 32
 ·rw [if_pos c2] at H
  have c2b0 : (a0 == 32) = true := beq_iff_eq.mpr c2
  have c2b1 : (a0 != 32) = false := bne_eq_false_iff_eq.mpr c2
  clear c2
  obtain rfl := Option.some.inj H
  go_enter Try.func56, Try.ntmps56
  go_wp2
  go_ret
  exact ⟨by first | rfl | (simp; done) | (simp [*]; done), by repeat (first | exact Drawn0.refl _ | apply Drawn0.step)⟩
 ·rw [if_neg c2] at H
  have c2b0 : (a0 == 32) = false := beq_eq_false_iff_ne.mpr c2
  have c2b1 : (a0 != 32) = true := bne_iff_ne.mpr c2
  by_cases c3 : a0 = 9
  ·rw [if_pos c3] at H
   have c3b0 : (a0 == 9) = true := beq_iff_eq.mpr c3
   have c3b1 : (a0 != 9) = false := bne_eq_false_iff_eq.mpr c3
   clear c3
   obtain rfl := Option.some.inj H
   go_enter Try.func56, Try.ntmps56
   go_wp2
   go_ret
   exact ⟨by first | rfl | (simp; done) | (simp [*]; done), by repeat (first | exact Drawn0.refl _ | apply Drawn0.step)⟩
  ·rw [if_neg c3] at H
   have c3b0 : (a0 == 9) = false := beq_eq_false_iff_ne.mpr c3
   have c3b1 : (a0 != 9) = true := bne_iff_ne.mpr c3
   by_cases c4 : a0 = 10
   ·rw [if_pos c4] at H
    have c4b0 : (a0 == 10) = true := beq_iff_eq.mpr c4
    have c4b1 : (a0 != 10) = false := bne_eq_false_iff_eq.mpr c4
    clear c4
    obtain rfl := Option.some.inj H
    go_enter Try.func56, Try.ntmps56
    go_wp2
    go_ret
    exact ⟨by first | rfl | (simp; done) | (simp [*]; done), by repeat (first | exact Drawn0.refl _ | apply Drawn0.step)⟩
   ·rw [if_neg c4] at H
    have c4b0 : (a0 == 10) = false := beq_eq_false_iff_ne.mpr c4
    have c4b1 : (a0 != 10) = true := bne_iff_ne.mpr c4
    obtain rfl := Option.some.inj H
    go_enter Try.func56, Try.ntmps56
    go_wp2
    go_ret
    exact ⟨by first | rfl | (simp; done) | (simp [*]; done), by repeat (first | exact Drawn0.refl _ | apply Drawn0.step)⟩
end Go.Proofs.Ytoefjhdcipgacaa.PA
end
