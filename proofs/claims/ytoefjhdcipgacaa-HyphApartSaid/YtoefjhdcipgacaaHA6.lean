/-
  Part 6 of what the law HyphApart rests on: contracts of the functions that it calls, and plain laws of what they compute.
-/
import Derived.Test.YtoefjhdcipgacaaProg
import Derived.Below
import Derived.Deep.Draws
import Derived.Deep.AppendLies
import Derived.Maps.AppendAt
import Derived.OwnWalk
import Derived.Laws.BytesArg
import Derived.Laws.MakeOwn
import Derived.Laws.OwnMore
import Derived.Deep.OwnRows
import Derived.Tactics
import Derived.Lib.ConvBytes
import Derived.Laws.Slices
import Derived.WalkKit
import Derived.KernelRfl
import Derived.RowKit3
import Derived.Deep.LoopGhost
import Derived.Deep.QuietTactic
import Derived.BigQuiet
import Derived.WideLaws
import Derived.Deep.DeepCutAuto
import Derived.Deep.CutBlock
import Derived.Deep.RegionHeld3
import Derived.Laws.Rows
import Derived.Lib.AppendStr
import Derived.ArgAppend
import Derived.Laws.IdiomCopy
import Derived.OrdersHeld
import Derived.Laws.BitsLemmas
import Derived.RowKit
import Derived.Test.YtoefjhdcipgacaaHA2
import Derived.Test.YtoefjhdcipgacaaHA3
import Derived.Test.YtoefjhdcipgacaaHA4
import Derived.Test.YtoefjhdcipgacaaHA5
section
namespace Go.Proofs.Ytoefjhdcipgacaa.PA
open Go.RowKit Go.Proofs.YtoefjhdcipgacaaW.PrintWords Go.Proofs.YtoefjhdcipgacaaW.PrintLast Go.Proofs.YtoefjhdcipgacaaW.PrintMore
attribute [local go_sem] max2_int min2_int max_two min_two max_three min_three max_four min_four   -- for this text's walks alone
set_option linter.unusedVariables false
set_option linter.unusedSimpArgs false
theorem info4 : (Try.prog.info? 4).map (fun i => (i.zero, i.size, i.bytes)) = some (some (.bool false), 1, 1) := by kernel_rfl
theorem info5 : (Try.prog.info? 5).map (fun i => (i.zero, i.size, i.bytes)) = some (some (.int .u8 0), 1, 1) := by kernel_rfl
theorem info21 : (Try.prog.info? 21).map (fun i => (i.zero, i.size, i.bytes)) = some (some (.int .i32 0), 1, 4) := by kernel_rfl
theorem info39 : (Try.prog.info? 39).map (fun i => (i.zero, i.size, i.bytes)) = some (some (.agg #[(.slice none 0 0), (.slice none 0 0)]), 2, 48) := by kernel_rfl
theorem info63 : (Try.prog.info? 63).map (fun i => (i.zero, i.size, i.bytes)) = some (some (.agg #[(.int .i32 0), (.int .i32 0), (.int .i64 0)]), 3, 16) := by kernel_rfl
theorem info66 : (Try.prog.info? 66).map (fun i => (i.zero, i.size, i.bytes)) = some (some (.agg #[(.int .i32 0), (.int .i64 0), (.int .i64 0)]), 3, 24) := by kernel_rfl
structure S39 where
  f0 : (List Int)
  f1 : (List Int)
def z39 : S39 := ⟨([] : List Int), ([] : List Int)⟩
def k39 : Kd S39 := Kd.iso (Kd.pair (Kd.slice 21 (Kd.int .i32)) (Kd.slice 5 (Kd.int .u8))) (fun x : S39 => (x.f0, x.f1))
theorem k39_open {w : World} {x : S39} {cs : List Value} (h : k39.K w x cs) : ∃ A0 c0 A1 c1, cs = [.slice A0 x.f0.length c0, .slice A1 x.f1.length c1] ∧ x.f0.length ≤ c0 ∧ (Kd.int .i32).C w A0 x.f0.length x.f0 ∧ x.f1.length ≤ c1 ∧ (Kd.int .u8).C w A1 x.f1.length x.f1 := by
  obtain ⟨_, _, rfl, ⟨A0, c0, rfl, l0, g0⟩, ⟨A1, c1, rfl, l1, g1⟩⟩ := h
  exact ⟨A0, c0, A1, c1, rfl, l0, g0, l1, g1⟩
theorem k39_mkM (w : World) (base : Nat) (ok : Nat → Prop) (x : S39) {v0 : Value} (g0 : (Kd.int .i32).R 21 w base ok v0 x.f0) {v1 : Value} (g1 : (Kd.int .u8).R 5 w base ok v1 x.f1) : k39.M w base ok x [v0, v1] := ⟨[v0], [v1], rfl, ⟨v0, rfl, g0⟩, ⟨v1, rfl, g1⟩⟩
def rd_T39 (xs : List S39) (i : Int) : S39 := xs.getD i.toNat z39
theorem at_T39 {w : World} {A : Option Addr} {n : Nat} {xs : List S39} (h : Kd.C k39 w A n xs) (i : Int) (h0 : 0 ≤ i) (h1 : i < n) : ∃ ad A0 c0 A1 c1, A = some ad ∧ w.cell? (ad.add (i.toNat * 2)) = some (.slice A0 (rd_T39 xs i).f0.length c0) ∧ w.cell? ⟨(ad.add (i.toNat * 2)).block, (ad.add (i.toNat * 2)).off + 1, none⟩ = some (.slice A1 (rd_T39 xs i).f1.length c1) ∧ (rd_T39 xs i).f0.length ≤ c0 ∧ (Kd.int .i32).C w A0 (rd_T39 xs i).f0.length (rd_T39 xs i).f0 ∧ (rd_T39 xs i).f1.length ≤ c1 ∧ (Kd.int .u8).C w A1 (rd_T39 xs i).f1.length (rd_T39 xs i).f1 := by
  obtain ⟨ad, c, e, _, hK, hc0⟩ := Kd.C_get h z39 i h0 h1
  have hc : ∀ j u, c[j]? = some u → w.cell? (ad.add (i.toNat * 2 + j)) = some u := hc0
  obtain ⟨A0, c0, A1, c1, rfl, l0, g0, l1, g1⟩ := k39_open hK
  exact ⟨ad, A0, c0, A1, c1, e, hc 0 _ rfl, by rw [← add_field _ _ 1 (by omega)]; exact hc 1 _ rfl, l0, g0, l1, g1⟩
structure S63 where
  f0 : Int
  f1 : Int
  f2 : Int
def z63 : S63 := ⟨(0 : Int), (0 : Int), (0 : Int)⟩
def k63 : Kd S63 := Kd.iso (Kd.pair (Kd.int .i32) (Kd.pair (Kd.int .i32) (Kd.int .i64))) (fun x : S63 => (x.f0, x.f1, x.f2))
theorem k63_open {w : World} {x : S63} {cs : List Value} (h : k63.K w x cs) : cs = [.int .i32 x.f0, .int .i32 x.f1, .int .i64 x.f2] := by
  obtain ⟨_, _, rfl, rfl, ⟨_, _, rfl, rfl, rfl⟩⟩ := h
  exact rfl
theorem k63_mkM (w : World) (base : Nat) (ok : Nat → Prop) (x : S63)  : k63.M w base ok x [.int .i32 x.f0, .int .i32 x.f1, .int .i64 x.f2] := ⟨[.int .i32 x.f0], [.int .i32 x.f1, .int .i64 x.f2], rfl, rfl, ⟨[.int .i32 x.f1], [.int .i64 x.f2], rfl, rfl, rfl⟩⟩
def rd_T63 (xs : List S63) (i : Int) : S63 := xs.getD i.toNat z63
theorem at_T63 {w : World} {A : Option Addr} {n : Nat} {xs : List S63} (h : Kd.C k63 w A n xs) (i : Int) (h0 : 0 ≤ i) (h1 : i < n) : ∃ ad , A = some ad ∧ w.cell? (ad.add (i.toNat * 3)) = some (.int .i32 (rd_T63 xs i).f0) ∧ w.cell? ⟨(ad.add (i.toNat * 3)).block, (ad.add (i.toNat * 3)).off + 1, none⟩ = some (.int .i32 (rd_T63 xs i).f1) ∧ w.cell? ⟨(ad.add (i.toNat * 3)).block, (ad.add (i.toNat * 3)).off + 2, none⟩ = some (.int .i64 (rd_T63 xs i).f2) := by
  obtain ⟨ad, c, e, _, hK, hc0⟩ := Kd.C_get h z63 i h0 h1
  have hc : ∀ j u, c[j]? = some u → w.cell? (ad.add (i.toNat * 3 + j)) = some u := hc0
  obtain rfl := k63_open hK
  exact ⟨ad, e, hc 0 _ rfl, by rw [← add_field _ _ 1 (by omega)]; exact hc 1 _ rfl, by rw [← add_field _ _ 2 (by omega)]; exact hc 2 _ rfl⟩
structure S66 where
  f0 : Int
  f1 : Int
  f2 : Int
def z66 : S66 := ⟨(0 : Int), (0 : Int), (0 : Int)⟩
def k66 : Kd S66 := Kd.iso (Kd.pair (Kd.int .i32) (Kd.pair (Kd.int .i64) (Kd.int .i64))) (fun x : S66 => (x.f0, x.f1, x.f2))
theorem k66_open {w : World} {x : S66} {cs : List Value} (h : k66.K w x cs) : cs = [.int .i32 x.f0, .int .i64 x.f1, .int .i64 x.f2] := by
  obtain ⟨_, _, rfl, rfl, ⟨_, _, rfl, rfl, rfl⟩⟩ := h
  exact rfl
theorem k66_mkM (w : World) (base : Nat) (ok : Nat → Prop) (x : S66)  : k66.M w base ok x [.int .i32 x.f0, .int .i64 x.f1, .int .i64 x.f2] := ⟨[.int .i32 x.f0], [.int .i64 x.f1, .int .i64 x.f2], rfl, rfl, ⟨[.int .i64 x.f1], [.int .i64 x.f2], rfl, rfl, rfl⟩⟩
def rd_T66 (xs : List S66) (i : Int) : S66 := xs.getD i.toNat z66
theorem at_T66 {w : World} {A : Option Addr} {n : Nat} {xs : List S66} (h : Kd.C k66 w A n xs) (i : Int) (h0 : 0 ≤ i) (h1 : i < n) : ∃ ad , A = some ad ∧ w.cell? (ad.add (i.toNat * 3)) = some (.int .i32 (rd_T66 xs i).f0) ∧ w.cell? ⟨(ad.add (i.toNat * 3)).block, (ad.add (i.toNat * 3)).off + 1, none⟩ = some (.int .i64 (rd_T66 xs i).f1) ∧ w.cell? ⟨(ad.add (i.toNat * 3)).block, (ad.add (i.toNat * 3)).off + 2, none⟩ = some (.int .i64 (rd_T66 xs i).f2) := by
  obtain ⟨ad, c, e, _, hK, hc0⟩ := Kd.C_get h z66 i h0 h1
  have hc : ∀ j u, c[j]? = some u → w.cell? (ad.add (i.toNat * 3 + j)) = some u := hc0
  obtain rfl := k66_open hK
  exact ⟨ad, e, hc 0 _ rfl, by rw [← add_field _ _ 1 (by omega)]; exact hc 1 _ rfl, by rw [← add_field _ _ 2 (by omega)]; exact hc 2 _ rfl⟩
end Go.Proofs.Ytoefjhdcipgacaa.PA
end
section
namespace Go.Proofs.Ytoefjhdcipgacaa.PA
open Go.RowKit Go.Proofs.YtoefjhdcipgacaaW.PrintWords Go.Proofs.YtoefjhdcipgacaaW.PrintLast Go.Proofs.YtoefjhdcipgacaaW.PrintMore
attribute [local go_sem] max2_int min2_int max_two min_two max_three min_three max_four min_four   -- for this text's walks alone
set_option linter.unusedVariables false
set_option linter.unusedSimpArgs false
def scal_need.j0 : Nat → Int → Bool → Option (Int × Int × Int)
  | 0, _, _ => none
  | k + 1, x0, x8 => if x8 = true then (some (0, 0, 0)) else (if x0 < 224 then (some (2, 128, 191)) else (if x0 = 224 then (some (3, 160, 191)) else (if x0 = 237 then (some (3, 128, 159)) else (if x0 < 240 then (some (3, 128, 191)) else (if x0 = 240 then (some (4, 144, 191)) else (if x0 = 244 then (some (4, 128, 143)) else (some (4, 128, 191))))))))
def scal_need.f (k : Nat) (a0 : Int) : Option (Int × Int × Int) := if a0 < 128 then (some (1, 0, 0)) else (if a0 < 194 then (scal_need.j0 k a0 true) else (scal_need.j0 k a0 (decide (a0 > 244))))
set_option maxHeartbeats 8000000 in
set_option maxRecDepth 100000 in
theorem scal_need.calls (k : Nat) (a0 : Int) (r1 : Int) (r2 : Int) (r3 : Int) (w : World) (h : scal_need.f k a0 = some (r1, r2, r3)) :
    Calls Try.prog 63 #[.int .u8 a0] w fun e w' => e = .returned (.tuple #[.int .i64 r1, .int .u8 r2, .int .u8 r3]) ∧ Drawn0 w w' := by
  have H : (if a0 < 128 then (some (1, 0, 0)) else (if a0 < 194 then (scal_need.j0 k a0 true) else (scal_need.j0 k a0 (decide (a0 > 244))))) = some (r1, r2, r3) := h
  clear h
  by_cases c2 : a0 < 128
  · rw [if_pos c2] at H
    have c2b0 : decide (a0 < 128) = true := decide_eq_true c2
    clear c2
    simp only [Option.some.injEq, Prod.mk.injEq] at H
    obtain ⟨rfl, rfl, rfl⟩ := H
    go_enter Try.func63, Try.ntmps63
    go_wp2
    go_ret3
    exact ⟨by first | rfl | (simp; done) | (simp [*]; done), by repeat (first | exact Drawn0.refl _ | apply Drawn0.step)⟩
  · rw [if_neg c2] at H
    have c2b0 : decide (a0 < 128) = false := decide_eq_false c2
    clear c2
    have HC3 := Aside0.mk H
    clear H
    go_enter Try.func63, Try.ntmps63
    go_upto_region 3 with (fail)
    go_cut [8] (fun v8 wc => ∃ (kq : Nat) (x8_2 : Bool), v8 = .bool x8_2 ∧ Aside0 (scal_need.j0 kq a0 x8_2 = some (r1, r2, r3)) ∧ Aside0 (kq ≤ k) ∧ Drawn0 w wc)
    case first =>
      have H := HC3.out
      clear HC3
      by_cases c4 : a0 < 194
      · rw [if_pos c4] at H
        have c4b0 : decide (a0 < 194) = true := decide_eq_true c4
        clear c4
        (first | rw [c4b0] | (simp only [i64_w, i32_w]; rw [c4b0]) | skip)
        have H' := Aside0.mk H
        clear H
        go_wp2
        go_meet
        case rel => exact ⟨_, (true), (by first | rfl | (simp; done) | (simp [*]; done)), H', ⟨by first | omega | exact Nat.le_refl _⟩, by repeat (first | exact Drawn0.refl _ | apply Drawn0.step)⟩
      · rw [if_neg c4] at H
        have c4b0 : decide (a0 < 194) = false := decide_eq_false c4
        clear c4
        (first | rw [c4b0] | (simp only [i64_w, i32_w]; rw [c4b0]) | skip)
        have H' := Aside0.mk H
        clear H
        go_wp2
        go_meet
        case rel => exact ⟨_, (decide (a0 > 244)), (by first | rfl | (simp; done) | (simp [*]; done)), H', ⟨by first | omega | exact Nat.le_refl _⟩, by repeat (first | exact Drawn0.refl _ | apply Drawn0.step)⟩
    case rest =>
      clear HC3
      try clear c2
      try clear c2b0
      try clear p2
      try clear c4
      try clear c4b0
      obtain ⟨kq, x8_2, rfl, HA, HJ2, ⟨mc2, rfl⟩⟩ := hcut
      cases kq with
      | zero => exact absurd HA.out (by simp [scal_need.j0])
      | succ kj2 =>
        have H := HA.out
        clear HA
        simp only [scal_need.j0] at H
        by_cases c5 : x8_2 = true
        · subst c5
          have H1 : (some (0, 0, 0)) = some (r1, r2, r3) := by rw [if_pos rfl] at H; exact H
          clear H
          have H := H1
          clear H1
          simp only [Option.some.injEq, Prod.mk.injEq] at H
          obtain ⟨rfl, rfl, rfl⟩ := H
          go_wp2
          go_ret3
          exact ⟨by first | rfl | (simp; done) | (simp [*]; done), by repeat (first | exact Drawn0.refl _ | apply Drawn0.step)⟩
        · replace c5 := Bool.eq_false_iff.mpr c5
          subst c5
          have H1 : (if a0 < 224 then (some (2, 128, 191)) else (if a0 = 224 then (some (3, 160, 191)) else (if a0 = 237 then (some (3, 128, 159)) else (if a0 < 240 then (some (3, 128, 191)) else (if a0 = 240 then (some (4, 144, 191)) else (if a0 = 244 then (some (4, 128, 143)) else (some (4, 128, 191)))))))) = some (r1, r2, r3) := by rw [if_neg (show ¬ (false = true) by decide)] at H; exact H
          clear H
          have H := H1
          clear H1
          by_cases c6 : a0 < 224
          · rw [if_pos c6] at H
            have c6b0 : decide (a0 < 224) = true := decide_eq_true c6
            clear c6
            simp only [Option.some.injEq, Prod.mk.injEq] at H
            obtain ⟨rfl, rfl, rfl⟩ := H
            go_wp2
            go_ret3
            exact ⟨by first | rfl | (simp; done) | (simp [*]; done), by repeat (first | exact Drawn0.refl _ | apply Drawn0.step)⟩
          · rw [if_neg c6] at H
            have c6b0 : decide (a0 < 224) = false := decide_eq_false c6
            clear c6
            by_cases c7 : a0 = 224
            · rw [if_pos c7] at H
              have c7b0 : (a0 == 224) = true := beq_iff_eq.mpr c7
              have c7b1 : (a0 != 224) = false := bne_eq_false_iff_eq.mpr c7
              clear c7
              simp only [Option.some.injEq, Prod.mk.injEq] at H
              obtain ⟨rfl, rfl, rfl⟩ := H
              go_wp2
              go_ret3
              exact ⟨by first | rfl | (simp; done) | (simp [*]; done), by repeat (first | exact Drawn0.refl _ | apply Drawn0.step)⟩
            · rw [if_neg c7] at H
              have c7b0 : (a0 == 224) = false := beq_eq_false_iff_ne.mpr c7
              have c7b1 : (a0 != 224) = true := bne_iff_ne.mpr c7
              by_cases c8 : a0 = 237
              · rw [if_pos c8] at H
                have c8b0 : (a0 == 237) = true := beq_iff_eq.mpr c8
                have c8b1 : (a0 != 237) = false := bne_eq_false_iff_eq.mpr c8
                clear c8
                simp only [Option.some.injEq, Prod.mk.injEq] at H
                obtain ⟨rfl, rfl, rfl⟩ := H
                go_wp2
                go_ret3
                exact ⟨by first | rfl | (simp; done) | (simp [*]; done), by repeat (first | exact Drawn0.refl _ | apply Drawn0.step)⟩
              · rw [if_neg c8] at H
                have c8b0 : (a0 == 237) = false := beq_eq_false_iff_ne.mpr c8
                have c8b1 : (a0 != 237) = true := bne_iff_ne.mpr c8
                by_cases c9 : a0 < 240
                · rw [if_pos c9] at H
                  have c9b0 : decide (a0 < 240) = true := decide_eq_true c9
                  clear c9
                  simp only [Option.some.injEq, Prod.mk.injEq] at H
                  obtain ⟨rfl, rfl, rfl⟩ := H
                  go_wp2
                  go_ret3
                  exact ⟨by first | rfl | (simp; done) | (simp [*]; done), by repeat (first | exact Drawn0.refl _ | apply Drawn0.step)⟩
                · rw [if_neg c9] at H
                  have c9b0 : decide (a0 < 240) = false := decide_eq_false c9
                  clear c9
                  by_cases c10 : a0 = 240
                  · rw [if_pos c10] at H
                    have c10b0 : (a0 == 240) = true := beq_iff_eq.mpr c10
                    have c10b1 : (a0 != 240) = false := bne_eq_false_iff_eq.mpr c10
                    clear c10
                    simp only [Option.some.injEq, Prod.mk.injEq] at H
                    obtain ⟨rfl, rfl, rfl⟩ := H
                    go_wp2
                    go_ret3
                    exact ⟨by first | rfl | (simp; done) | (simp [*]; done), by repeat (first | exact Drawn0.refl _ | apply Drawn0.step)⟩
                  · rw [if_neg c10] at H
                    have c10b0 : (a0 == 240) = false := beq_eq_false_iff_ne.mpr c10
                    have c10b1 : (a0 != 240) = true := bne_iff_ne.mpr c10
                    by_cases c11 : a0 = 244
                    · rw [if_pos c11] at H
                      have c11b0 : (a0 == 244) = true := beq_iff_eq.mpr c11
                      have c11b1 : (a0 != 244) = false := bne_eq_false_iff_eq.mpr c11
                      clear c11
                      simp only [Option.some.injEq, Prod.mk.injEq] at H
                      obtain ⟨rfl, rfl, rfl⟩ := H
                      go_wp2
                      go_ret3
                      exact ⟨by first | rfl | (simp; done) | (simp [*]; done), by repeat (first | exact Drawn0.refl _ | apply Drawn0.step)⟩
                    · rw [if_neg c11] at H
                      have c11b0 : (a0 == 244) = false := beq_eq_false_iff_ne.mpr c11
                      have c11b1 : (a0 != 244) = true := bne_iff_ne.mpr c11
                      simp only [Option.some.injEq, Prod.mk.injEq] at H
                      obtain ⟨rfl, rfl, rfl⟩ := H
                      go_wp2
                      go_ret3
                      exact ⟨by first | rfl | (simp; done) | (simp [*]; done), by repeat (first | exact Drawn0.refl _ | apply Drawn0.step)⟩
end Go.Proofs.Ytoefjhdcipgacaa.PA
end
section
namespace Go.Proofs.Ytoefjhdcipgacaa.PA
open Go.RowKit Go.Proofs.YtoefjhdcipgacaaW.PrintWords Go.Proofs.YtoefjhdcipgacaaW.PrintLast Go.Proofs.YtoefjhdcipgacaaW.PrintMore
attribute [local go_sem] max2_int min2_int max_two min_two max_three min_three max_four min_four   -- for this text's walks alone
set_option linter.unusedVariables false
set_option linter.unusedSimpArgs false
mutual
def scal_One.j0 : Nat → List Int → Int → Bool → Option (Int × Int × Int)
  | 0, _, _, _ => none
  | k + 1, x0, x1, x18 => if x18 = true then (some (0, 0, 0)) else (if 0 ≤ x1 then (if x1 < (x0.length : Int) then ((scal_need.f k (rd x0 x1)).bind fun bt208 => (if bt208.1 < 2 then (if bt208.1 = 1 then (some (wrap32 (rd x0 x1), x1, 1)) else (some (65533, x1, 1))) else (if 0 ≤ bt208.1 then (scal_One.l0 k x0 x1 bt208.1 bt208.2.1 bt208.2.2 (Go.bits .and .i32 (wrap32 (rd x0 x1)) (shr .i32 127 bt208.1)) 1 65533 x1 1) else (none)))) else (none)) else (none))
def scal_One.l0 : Nat → List Int → Int → Int → Int → Int → Int → Int → Int → Int → Int → Option (Int × Int × Int)
  | 0, _, _, _, _, _, _, _, _, _, _ => none
  | k + 1, x0, x1, x5, x6, x7, x9, x10, x212000, x212001, x212002 => if x10 < x5 then (if (wrap64 (x1 + x10)) ≥ (x0.length : Int) then (some (x212000, x212001, x212002)) else (if 0 ≤ (wrap64 (x1 + x10)) then (if (wrap64 (x1 + x10)) < (x0.length : Int) then (if (rd x0 (wrap64 (x1 + x10))) < x6 then (some (x212000, x212001, x212002)) else (if (rd x0 (wrap64 (x1 + x10))) > x7 then (some (x212000, x212001, x212002)) else (scal_One.l0 k x0 x1 x5 128 191 (Go.bits .or .i32 (wrap32 (x9 * 64)) (wrap32 (Go.bits .and .u8 (rd x0 (wrap64 (x1 + x10))) 63))) (wrap64 (x10 + 1)) x212000 x212001 (wrap64 (x10 + 1))))) else (none)) else (none))) else (some (x9, x212001, x212002))
end
def scal_One.f (k : Nat) (l0 : List Int) (a1 : Int) : Option (Int × Int × Int) := if a1 < 0 then (scal_One.j0 k l0 a1 true) else (scal_One.j0 k l0 a1 (decide (a1 ≥ (l0.length : Int))))
set_option maxHeartbeats 8000000 in
set_option maxRecDepth 100000 in
theorem scal_One.calls (k : Nat) (A0 : Option Addr) (c0 : Nat) (l0 : List Int) (a1 : Int) (r1 : Int) (r2 : Int) (r3 : Int) (w : World) (hr0 : Kd.C (Kd.int .u8) w A0 l0.length l0) (hc0 : l0.length ≤ c0) (h : scal_One.f k l0 a1 = some (r1, r2, r3)) :
    Calls Try.prog 60 #[.slice A0 l0.length c0, .int .i64 a1] w fun e w' => e = .returned (.agg #[.int .i32 r1, .int .i64 r2, .int .i64 r3]) ∧ Below w.heap.size w w' := by
  have hu66 := Try.underlying66
  have HR0 := Aside0.mk hr0
  have HC0 := Aside0.mk hc0
  clear hr0 hc0
  have HB := Aside0.mk (Below.refl w.heap.size w)
  have H : (if a1 < 0 then (scal_One.j0 k l0 a1 true) else (scal_One.j0 k l0 a1 (decide (a1 ≥ (l0.length : Int))))) = some (r1, r2, r3) := h
  clear h
  have HC3 := Aside0.mk H
  clear H
  go_enter Try.func60, Try.ntmps60
  go_upto_region 1 with (first | ((with_reducible refine gate_dst (N := 4) rfl ?_); (try (refine gate_guard (by rfl) ?_; dsimp only)); refine box_event ?hg (N := 4) ?hd (cs := #[.int .i32 0, .int .i64 0, .int .i64 0]) (t := 66) ?hr ?_; (case hd => rfl); (case hg => rfl); (case hr => first | (go_simp; done) | (go_simp; rfl)); intro gb206 hg w4 hbox hb; have n0_ := Aside0.mk (below_step (HB.out) hb); have n1_ := Aside0.mk (hbox); have n2_ := Aside0.mk ((by rw [hg]; exact (below_size (HB.out)) : w.heap.size ≤ gb206)); have n3_ := Aside0.mk ((by rw [hg]; exact (below_size (HB.out)) : w.heap.size ≤ gb206)); clear HB; have HB := n0_; have BK206 := n1_; have GW206 := n2_; have GE206 := n3_; clear n0_ n1_ n2_ n3_; clear hb hbox hg))
  repeat (go_quiet (first | ((with_reducible refine gate_dst (N := 4) rfl ?_); (try (refine gate_guard (by rfl) ?_; dsimp only)); refine box_event ?hg (N := 4) ?hd (cs := #[.int .i32 0, .int .i64 0, .int .i64 0]) (t := 66) ?hr ?_; (case hd => rfl); (case hg => rfl); (case hr => first | (go_simp; done) | (go_simp; rfl)); intro gb206 hg w4 hbox hb; have n0_ := Aside0.mk (below_step (HB.out) hb); have n1_ := Aside0.mk (hbox); have n2_ := Aside0.mk ((by rw [hg]; exact (below_size (HB.out)) : w.heap.size ≤ gb206)); have n3_ := Aside0.mk ((by rw [hg]; exact (below_size (HB.out)) : w.heap.size ≤ gb206)); clear HB; have HB := n0_; have BK206 := n1_; have GW206 := n2_; have GE206 := n3_; clear n0_ n1_ n2_ n3_; clear hb hbox hg)); go_upto_region 1 with (first | ((with_reducible refine gate_dst (N := 4) rfl ?_); (try (refine gate_guard (by rfl) ?_; dsimp only)); refine box_event ?hg (N := 4) ?hd (cs := #[.int .i32 0, .int .i64 0, .int .i64 0]) (t := 66) ?hr ?_; (case hd => rfl); (case hg => rfl); (case hr => first | (go_simp; done) | (go_simp; rfl)); intro gb206 hg w4 hbox hb; have n0_ := Aside0.mk (below_step (HB.out) hb); have n1_ := Aside0.mk (hbox); have n2_ := Aside0.mk ((by rw [hg]; exact (below_size (HB.out)) : w.heap.size ≤ gb206)); have n3_ := Aside0.mk ((by rw [hg]; exact (below_size (HB.out)) : w.heap.size ≤ gb206)); clear HB; have HB := n0_; have BK206 := n1_; have GW206 := n2_; have GE206 := n3_; clear n0_ n1_ n2_ n3_; clear hb hbox hg)))
  (try simp only [Act.put, List.setIfInBounds_toArray, List.set_cons_zero, List.set_cons_succ])
  go_cut [18] (fun v18 wc => ∃ (kq : Nat) (x18_2 : Bool), v18 = .bool x18_2 ∧ Aside0 (scal_One.j0 kq l0 a1 x18_2 = some (r1, r2, r3)) ∧ Aside0 (kq ≤ k) ∧ Aside0 (wc.heap[gb206]? = some (.cells #[.int .i32 0, .int .i64 0, .int .i64 0] 66 (0, 0))) ∧ Aside0 (Below w.heap.size w wc))
  case first =>
    have H := HC3.out
    clear HC3
    by_cases c5 : a1 < 0
    · rw [if_pos c5] at H
      have c5b0 : decide (a1 < 0) = true := decide_eq_true c5
      clear c5
      (first | rw [c5b0] | (simp only [i64_w, i32_w]; rw [c5b0]) | skip)
      have H' := Aside0.mk H
      clear H
      go_wp2
      repeat (go_quiet (fail); try go_wp2)
      go_meet
      case rel => exact ⟨_, (true), (rfl), H', ⟨by omega⟩, ⟨by exact BK206.out⟩, ⟨HB.out⟩⟩
    · rw [if_neg c5] at H
      have c5b0 : decide (a1 < 0) = false := decide_eq_false c5
      clear c5
      (first | rw [c5b0] | (simp only [i64_w, i32_w]; rw [c5b0]) | skip)
      have H' := Aside0.mk H
      clear H
      go_wp2
      repeat (go_quiet (fail); try go_wp2)
      go_meet
      case rel => exact ⟨_, (decide (a1 ≥ (l0.length : Int))), (rfl), H', ⟨by omega⟩, ⟨by exact BK206.out⟩, ⟨HB.out⟩⟩
  case rest =>
    clear HC3
    try clear p2
    try clear c5
    try clear c5b0
    obtain ⟨kq, x18_2, rfl, HA, HJ2, BK206, HB⟩ := hcut
    cases kq with
    | zero => exact absurd HA.out (by simp [scal_One.j0])
    | succ kj2 =>
      have H := HA.out
      clear HA
      simp only [scal_One.j0] at H
      by_cases c6 : x18_2 = true
      · subst c6
        have H1 : (some (0, 0, 0)) = some (r1, r2, r3) := by rw [if_pos rfl] at H; exact H
        clear H
        have H := H1
        clear H1
        simp only [Option.some.injEq, Prod.mk.injEq] at H
        obtain ⟨rfl, rfl, rfl⟩ := H
        have hcz7_0 : wc.cell? ⟨gb206, 0, none⟩ = some (.int .i32 0) := (blk_cell BK206.out 0).trans rfl
        have hcz7_1 : wc.cell? ⟨gb206, 1, none⟩ = some (.int .i64 0) := (blk_cell BK206.out 1).trans rfl
        have hcz7_2 : wc.cell? ⟨gb206, 2, none⟩ = some (.int .i64 0) := (blk_cell BK206.out 2).trans rfl
        have hfz7_0 := blk_frozen BK206.out 0
        have hfz7_1 := blk_frozen BK206.out 1
        have hfz7_2 := blk_frozen BK206.out 2
        go_wp2
        repeat (go_quiet (fail); try go_wp2)
        refine bodyPost_ret (results_cell_row rfl _ _ gb206 66 #[.int .i32 0, .int .i64 0, .int .i64 0] (0, 0) _ rfl (by refine blk_put (cs := #[.int .i32 0, .int .i64 0, .int .i64 0]) ?_ 2 _ rfl; refine blk_put (cs := #[.int .i32 0, .int .i64 0, .int .i64 0]) ?_ 1 _ rfl; refine blk_put (cs := #[.int .i32 0, .int .i64 0, .int .i64 0]) ?_ 0 _ rfl; exact BK206.out) Try.underlying66 rfl (by kernel_rfl)) rfl ?_
        exact ⟨by first | rfl | (simp [errW_none, errW_some] <;> rfl) | (simp [*, errW_none, errW_some] <;> rfl), by repeat (first | (with_reducible first | exact HB.out | apply below_alloc | apply pw_below_drewN | apply below_drew1 | refine below_set ?_ GE206.out) | exact HB.out)⟩
      · replace c6 := Bool.eq_false_iff.mpr c6
        subst c6
        have H1 : (if 0 ≤ a1 then (if a1 < (l0.length : Int) then ((scal_need.f kj2 (rd l0 a1)).bind fun bt208 => (if bt208.1 < 2 then (if bt208.1 = 1 then (some (wrap32 (rd l0 a1), a1, 1)) else (some (65533, a1, 1))) else (if 0 ≤ bt208.1 then (scal_One.l0 kj2 l0 a1 bt208.1 bt208.2.1 bt208.2.2 (Go.bits .and .i32 (wrap32 (rd l0 a1)) (shr .i32 127 bt208.1)) 1 65533 a1 1) else (none)))) else (none)) else (none)) = some (r1, r2, r3) := by rw [if_neg (show ¬ (false = true) by decide)] at H; exact H
        clear H
        have H := H1
        clear H1
        by_cases c8 : 0 ≤ a1
        · rw [if_pos c8] at H
          have c8b0 : decide (0 ≤ a1) = true := decide_eq_true c8
          clear c8
          by_cases c9 : a1 < (l0.length : Int)
          · rw [if_pos c9] at H
            have c9b0 : decide (a1 < (l0.length : Int)) = true := decide_eq_true c9
            clear c9
            replace H := Option.bind_eq_some_iff.mp H
            obtain ⟨⟨t208, t209, t210⟩, A100, H⟩ := H
            replace H : (if t208 < 2 then (if t208 = 1 then (some (wrap32 (rd l0 a1), a1, 1)) else (some (65533, a1, 1))) else (if 0 ≤ t208 then (scal_One.l0 kj2 l0 a1 t208 t209 t210 (Go.bits .and .i32 (wrap32 (rd l0 a1)) (shr .i32 127 t208)) 1 65533 a1 1) else (none))) = some (r1, r2, r3) := H
            have A10 := Aside0.mk A100
            clear A100
            by_cases c11 : t208 < 2
            · rw [if_pos c11] at H
              have c11b0 : decide (t208 < 2) = true := decide_eq_true c11
              clear c11
              by_cases c12 : t208 = 1
              · rw [if_pos c12] at H
                have c12b0 : (t208 == 1) = true := beq_iff_eq.mpr c12
                have c12b1 : (t208 != 1) = false := bne_eq_false_iff_eq.mpr c12
                clear c12
                simp only [Option.some.injEq, Prod.mk.injEq] at H
                obtain ⟨rfl, rfl, rfl⟩ := H
                have p207 : 0 ≤ (a1 : Int) := of_decide_eq_true (by assumption)
                have q207 : a1 < (l0.length : Int) := of_decide_eq_true (by assumption)
                obtain ⟨ad207, e207, hx207_0⟩ := Kd.at_int HR0.out a1 p207 q207
                cases e207
                replace hx207_0 := (HB.out.cell (World.block_lt_of_cell? w _ hx207_0)).trans hx207_0
                replace p207 := eq_true p207
                replace q207 := eq_true q207
                go_wp2_with (first | (go_at_call 63; (with_reducible refine (scal_need.calls kj2 (rd l0 a1) t208 t209 t210 _ A10.out).mono ?_); rintro e w' ⟨rfl, ⟨nd, rfl⟩⟩; (try first | exact ⟨rfl, _, World.drewN_drewN _ _ _⟩ | exact ⟨rfl, _, Eq.trans (World.drewN_drewN _ _ _) (congrArg (World.drewN _) (Nat.add_assoc _ _ _))⟩)) | ((with_reducible refine gate_dst (N := 8) rfl ?_); (try (refine gate_guard (by rfl) ?_; dsimp only)); refine box_event ?hg (N := 8) ?hd (cs := #[.int .i32 0, .int .i64 0, .int .i64 0]) (t := 66) ?hr ?_; (case hd => rfl); (case hg => rfl); (case hr => first | (go_simp; done) | (go_simp; rfl)); intro gb211 hg w13 hbox hb; have n0_ := Aside0.mk (blk_below (g := gb206) (o := .cells #[.int .i32 0, .int .i64 0, .int .i64 0] 66 (0, 0)) (by (with_reducible repeat (first | refine blk_drewN ?_ _ | refine blk_drew ?_ | refine blk_alloc ?_ _)); exact BK206.out) hb); have n1_ := Aside0.mk (below_step (by repeat (first | (with_reducible first | exact HB.out | apply below_alloc | apply pw_below_drewN | apply below_drew1 | refine below_set ?_ GE206.out) | exact HB.out)) hb); have n2_ := Aside0.mk (hbox); have n3_ := Aside0.mk ((by rw [hg]; exact (below_size (by repeat (first | (with_reducible first | exact HB.out | apply below_alloc | apply pw_below_drewN | apply below_drew1 | refine below_set ?_ GE206.out) | exact HB.out))) : w.heap.size ≤ gb211)); have n4_ := Aside0.mk ((by rw [hg]; exact (below_size (by repeat (first | (with_reducible first | exact HB.out | apply below_alloc | apply pw_below_drewN | apply below_drew1 | refine below_set ?_ GE206.out) | exact HB.out))) : w.heap.size ≤ gb211)); have n5_ := Aside0.mk ((by rw [hg]; exact Nat.ne_of_lt (blk_lt (g := gb206) (o := .cells #[.int .i32 0, .int .i64 0, .int .i64 0] 66 (0, 0)) (by (with_reducible repeat (first | refine blk_drewN ?_ _ | refine blk_drew ?_ | refine blk_alloc ?_ _)); exact BK206.out)) : gb206 ≠ gb211)); have n6_ := Aside0.mk ((by rw [hg]; exact Nat.ne_of_gt (blk_lt (g := gb206) (o := .cells #[.int .i32 0, .int .i64 0, .int .i64 0] 66 (0, 0)) (by (with_reducible repeat (first | refine blk_drewN ?_ _ | refine blk_drew ?_ | refine blk_alloc ?_ _)); exact BK206.out)) : gb211 ≠ gb206)); clear BK206; clear HB; have BK206 := n0_; have HB := n1_; have BK211 := n2_; have GW211 := n3_; have GE211 := n4_; have NB206_211 := n5_; have NB211_206 := n6_; clear n0_ n1_ n2_ n3_ n4_ n5_ n6_; clear hb hbox hg; have hnb14 := NB211_206.out; have hnc14 := NB206_211.out; have hcz15_0 : w13.cell? ⟨gb211, 0, none⟩ = some (.int .i32 0) := (blk_cell BK211.out 0).trans rfl; have hcz15_1 : w13.cell? ⟨gb211, 1, none⟩ = some (.int .i64 0) := (blk_cell BK211.out 1).trans rfl; have hcz15_2 : w13.cell? ⟨gb211, 2, none⟩ = some (.int .i64 0) := (blk_cell BK211.out 2).trans rfl; have hfz15_0 := blk_frozen BK211.out 0; have hfz15_1 := blk_frozen BK211.out 1; have hfz15_2 := blk_frozen BK211.out 2; have p212 : 0 ≤ (a1 : Int) := of_decide_eq_true (by first | (with_reducible assumption) | assumption); have q212 : a1 < (l0.length : Int) := of_decide_eq_true (by first | (with_reducible assumption) | assumption); obtain ⟨ad212, e212, hx212_0⟩ := Kd.at_int HR0.out a1 p212 q212; obtain rfl : ad207 = ad212 := (by injection e212); have hn212_0 : ad207.block ≠ gb211 := Nat.ne_of_lt (Nat.lt_of_lt_of_le (by have := World.block_lt_of_cell? _ _ hx212_0; first | rwa [add_block] at this | exact this) GW211.out); have hn212_1 : ad207.block ≠ gb211 := Nat.ne_of_lt (Nat.lt_of_lt_of_le (by have := World.block_lt_of_cell? _ _ hx212_0; first | rwa [add_block] at this | exact this) GW211.out); have hn212_2 : ad207.block ≠ gb211 := Nat.ne_of_lt (Nat.lt_of_lt_of_le (by have := World.block_lt_of_cell? _ _ hx212_0; first | rwa [add_block] at this | exact this) GW211.out); replace hx212_0 := (HB.out.cell (World.block_lt_of_cell? w _ hx212_0)).trans hx212_0; replace hx212_0 := (cell_far (p := ⟨gb211, 0, none⟩) (by first | (rw [add_block]; exact hn212_0) | (show (Addr.add _ _).block ≠ _; rw [add_block]; exact hn212_0) | exact hn212_0) (.int .i32 65533)).trans hx212_0; replace hx212_0 := (cell_far (p := ⟨gb211, 1, none⟩) (by first | (rw [add_block]; exact hn212_1) | (show (Addr.add _ _).block ≠ _; rw [add_block]; exact hn212_1) | exact hn212_1) (.int .i64 a1)).trans hx212_0; replace hx212_0 := (cell_far (p := ⟨gb211, 2, none⟩) (by first | (rw [add_block]; exact hn212_2) | (show (Addr.add _ _).block ≠ _; rw [add_block]; exact hn212_2) | exact hn212_2) (.int .i64 1)).trans hx212_0; (try have hy212_0 := fun (n_ : Nat) => (show (((((w13.drewN n_).setCell ⟨gb211, 0, none⟩ (.int .i32 65533)).setCell ⟨gb211, 1, none⟩ (.int .i64 a1)).setCell ⟨gb211, 2, none⟩ (.int .i64 1))).cell? _ = some _ from hx212_0)); clear hn212_0; clear hn212_1; clear hn212_2; replace p212 := eq_true p212; replace q212 := eq_true q212; have hcz16_0 : w13.cell? ⟨gb206, 0, none⟩ = some (.int .i32 0) := (blk_cell BK206.out 0).trans rfl; have hcz16_1 : w13.cell? ⟨gb206, 1, none⟩ = some (.int .i64 0) := (blk_cell BK206.out 1).trans rfl; have hcz16_2 : w13.cell? ⟨gb206, 2, none⟩ = some (.int .i64 0) := (blk_cell BK206.out 2).trans rfl; have hfz16_0 := blk_frozen BK206.out 0; have hfz16_1 := blk_frozen BK206.out 1; have hfz16_2 := blk_frozen BK206.out 2))
                repeat (go_quiet (first | (go_at_call 63; (with_reducible refine (scal_need.calls kj2 (rd l0 a1) t208 t209 t210 _ A10.out).mono ?_); rintro e w' ⟨rfl, ⟨nd, rfl⟩⟩; (try first | exact ⟨rfl, _, World.drewN_drewN _ _ _⟩ | exact ⟨rfl, _, Eq.trans (World.drewN_drewN _ _ _) (congrArg (World.drewN _) (Nat.add_assoc _ _ _))⟩)) | ((with_reducible refine gate_dst (N := 8) rfl ?_); (try (refine gate_guard (by rfl) ?_; dsimp only)); refine box_event ?hg (N := 8) ?hd (cs := #[.int .i32 0, .int .i64 0, .int .i64 0]) (t := 66) ?hr ?_; (case hd => rfl); (case hg => rfl); (case hr => first | (go_simp; done) | (go_simp; rfl)); intro gb211 hg w13 hbox hb; have n0_ := Aside0.mk (blk_below (g := gb206) (o := .cells #[.int .i32 0, .int .i64 0, .int .i64 0] 66 (0, 0)) (by (with_reducible repeat (first | refine blk_drewN ?_ _ | refine blk_drew ?_ | refine blk_alloc ?_ _)); exact BK206.out) hb); have n1_ := Aside0.mk (below_step (by repeat (first | (with_reducible first | exact HB.out | apply below_alloc | apply pw_below_drewN | apply below_drew1 | refine below_set ?_ GE206.out) | exact HB.out)) hb); have n2_ := Aside0.mk (hbox); have n3_ := Aside0.mk ((by rw [hg]; exact (below_size (by repeat (first | (with_reducible first | exact HB.out | apply below_alloc | apply pw_below_drewN | apply below_drew1 | refine below_set ?_ GE206.out) | exact HB.out))) : w.heap.size ≤ gb211)); have n4_ := Aside0.mk ((by rw [hg]; exact (below_size (by repeat (first | (with_reducible first | exact HB.out | apply below_alloc | apply pw_below_drewN | apply below_drew1 | refine below_set ?_ GE206.out) | exact HB.out))) : w.heap.size ≤ gb211)); have n5_ := Aside0.mk ((by rw [hg]; exact Nat.ne_of_lt (blk_lt (g := gb206) (o := .cells #[.int .i32 0, .int .i64 0, .int .i64 0] 66 (0, 0)) (by (with_reducible repeat (first | refine blk_drewN ?_ _ | refine blk_drew ?_ | refine blk_alloc ?_ _)); exact BK206.out)) : gb206 ≠ gb211)); have n6_ := Aside0.mk ((by rw [hg]; exact Nat.ne_of_gt (blk_lt (g := gb206) (o := .cells #[.int .i32 0, .int .i64 0, .int .i64 0] 66 (0, 0)) (by (with_reducible repeat (first | refine blk_drewN ?_ _ | refine blk_drew ?_ | refine blk_alloc ?_ _)); exact BK206.out)) : gb211 ≠ gb206)); clear BK206; clear HB; have BK206 := n0_; have HB := n1_; have BK211 := n2_; have GW211 := n3_; have GE211 := n4_; have NB206_211 := n5_; have NB211_206 := n6_; clear n0_ n1_ n2_ n3_ n4_ n5_ n6_; clear hb hbox hg; have hnb14 := NB211_206.out; have hnc14 := NB206_211.out; have hcz15_0 : w13.cell? ⟨gb211, 0, none⟩ = some (.int .i32 0) := (blk_cell BK211.out 0).trans rfl; have hcz15_1 : w13.cell? ⟨gb211, 1, none⟩ = some (.int .i64 0) := (blk_cell BK211.out 1).trans rfl; have hcz15_2 : w13.cell? ⟨gb211, 2, none⟩ = some (.int .i64 0) := (blk_cell BK211.out 2).trans rfl; have hfz15_0 := blk_frozen BK211.out 0; have hfz15_1 := blk_frozen BK211.out 1; have hfz15_2 := blk_frozen BK211.out 2; have p212 : 0 ≤ (a1 : Int) := of_decide_eq_true (by first | (with_reducible assumption) | assumption); have q212 : a1 < (l0.length : Int) := of_decide_eq_true (by first | (with_reducible assumption) | assumption); obtain ⟨ad212, e212, hx212_0⟩ := Kd.at_int HR0.out a1 p212 q212; obtain rfl : ad207 = ad212 := (by injection e212); have hn212_0 : ad207.block ≠ gb211 := Nat.ne_of_lt (Nat.lt_of_lt_of_le (by have := World.block_lt_of_cell? _ _ hx212_0; first | rwa [add_block] at this | exact this) GW211.out); have hn212_1 : ad207.block ≠ gb211 := Nat.ne_of_lt (Nat.lt_of_lt_of_le (by have := World.block_lt_of_cell? _ _ hx212_0; first | rwa [add_block] at this | exact this) GW211.out); have hn212_2 : ad207.block ≠ gb211 := Nat.ne_of_lt (Nat.lt_of_lt_of_le (by have := World.block_lt_of_cell? _ _ hx212_0; first | rwa [add_block] at this | exact this) GW211.out); replace hx212_0 := (HB.out.cell (World.block_lt_of_cell? w _ hx212_0)).trans hx212_0; replace hx212_0 := (cell_far (p := ⟨gb211, 0, none⟩) (by first | (rw [add_block]; exact hn212_0) | (show (Addr.add _ _).block ≠ _; rw [add_block]; exact hn212_0) | exact hn212_0) (.int .i32 65533)).trans hx212_0; replace hx212_0 := (cell_far (p := ⟨gb211, 1, none⟩) (by first | (rw [add_block]; exact hn212_1) | (show (Addr.add _ _).block ≠ _; rw [add_block]; exact hn212_1) | exact hn212_1) (.int .i64 a1)).trans hx212_0; replace hx212_0 := (cell_far (p := ⟨gb211, 2, none⟩) (by first | (rw [add_block]; exact hn212_2) | (show (Addr.add _ _).block ≠ _; rw [add_block]; exact hn212_2) | exact hn212_2) (.int .i64 1)).trans hx212_0; (try have hy212_0 := fun (n_ : Nat) => (show (((((w13.drewN n_).setCell ⟨gb211, 0, none⟩ (.int .i32 65533)).setCell ⟨gb211, 1, none⟩ (.int .i64 a1)).setCell ⟨gb211, 2, none⟩ (.int .i64 1))).cell? _ = some _ from hx212_0)); clear hn212_0; clear hn212_1; clear hn212_2; replace p212 := eq_true p212; replace q212 := eq_true q212; have hcz16_0 : w13.cell? ⟨gb206, 0, none⟩ = some (.int .i32 0) := (blk_cell BK206.out 0).trans rfl; have hcz16_1 : w13.cell? ⟨gb206, 1, none⟩ = some (.int .i64 0) := (blk_cell BK206.out 1).trans rfl; have hcz16_2 : w13.cell? ⟨gb206, 2, none⟩ = some (.int .i64 0) := (blk_cell BK206.out 2).trans rfl; have hfz16_0 := blk_frozen BK206.out 0; have hfz16_1 := blk_frozen BK206.out 1; have hfz16_2 := blk_frozen BK206.out 2)); try go_wp2_with (first | (go_at_call 63; (with_reducible refine (scal_need.calls kj2 (rd l0 a1) t208 t209 t210 _ A10.out).mono ?_); rintro e w' ⟨rfl, ⟨nd, rfl⟩⟩; (try first | exact ⟨rfl, _, World.drewN_drewN _ _ _⟩ | exact ⟨rfl, _, Eq.trans (World.drewN_drewN _ _ _) (congrArg (World.drewN _) (Nat.add_assoc _ _ _))⟩)) | ((with_reducible refine gate_dst (N := 8) rfl ?_); (try (refine gate_guard (by rfl) ?_; dsimp only)); refine box_event ?hg (N := 8) ?hd (cs := #[.int .i32 0, .int .i64 0, .int .i64 0]) (t := 66) ?hr ?_; (case hd => rfl); (case hg => rfl); (case hr => first | (go_simp; done) | (go_simp; rfl)); intro gb211 hg w13 hbox hb; have n0_ := Aside0.mk (blk_below (g := gb206) (o := .cells #[.int .i32 0, .int .i64 0, .int .i64 0] 66 (0, 0)) (by (with_reducible repeat (first | refine blk_drewN ?_ _ | refine blk_drew ?_ | refine blk_alloc ?_ _)); exact BK206.out) hb); have n1_ := Aside0.mk (below_step (by repeat (first | (with_reducible first | exact HB.out | apply below_alloc | apply pw_below_drewN | apply below_drew1 | refine below_set ?_ GE206.out) | exact HB.out)) hb); have n2_ := Aside0.mk (hbox); have n3_ := Aside0.mk ((by rw [hg]; exact (below_size (by repeat (first | (with_reducible first | exact HB.out | apply below_alloc | apply pw_below_drewN | apply below_drew1 | refine below_set ?_ GE206.out) | exact HB.out))) : w.heap.size ≤ gb211)); have n4_ := Aside0.mk ((by rw [hg]; exact (below_size (by repeat (first | (with_reducible first | exact HB.out | apply below_alloc | apply pw_below_drewN | apply below_drew1 | refine below_set ?_ GE206.out) | exact HB.out))) : w.heap.size ≤ gb211)); have n5_ := Aside0.mk ((by rw [hg]; exact Nat.ne_of_lt (blk_lt (g := gb206) (o := .cells #[.int .i32 0, .int .i64 0, .int .i64 0] 66 (0, 0)) (by (with_reducible repeat (first | refine blk_drewN ?_ _ | refine blk_drew ?_ | refine blk_alloc ?_ _)); exact BK206.out)) : gb206 ≠ gb211)); have n6_ := Aside0.mk ((by rw [hg]; exact Nat.ne_of_gt (blk_lt (g := gb206) (o := .cells #[.int .i32 0, .int .i64 0, .int .i64 0] 66 (0, 0)) (by (with_reducible repeat (first | refine blk_drewN ?_ _ | refine blk_drew ?_ | refine blk_alloc ?_ _)); exact BK206.out)) : gb211 ≠ gb206)); clear BK206; clear HB; have BK206 := n0_; have HB := n1_; have BK211 := n2_; have GW211 := n3_; have GE211 := n4_; have NB206_211 := n5_; have NB211_206 := n6_; clear n0_ n1_ n2_ n3_ n4_ n5_ n6_; clear hb hbox hg; have hnb14 := NB211_206.out; have hnc14 := NB206_211.out; have hcz15_0 : w13.cell? ⟨gb211, 0, none⟩ = some (.int .i32 0) := (blk_cell BK211.out 0).trans rfl; have hcz15_1 : w13.cell? ⟨gb211, 1, none⟩ = some (.int .i64 0) := (blk_cell BK211.out 1).trans rfl; have hcz15_2 : w13.cell? ⟨gb211, 2, none⟩ = some (.int .i64 0) := (blk_cell BK211.out 2).trans rfl; have hfz15_0 := blk_frozen BK211.out 0; have hfz15_1 := blk_frozen BK211.out 1; have hfz15_2 := blk_frozen BK211.out 2; have p212 : 0 ≤ (a1 : Int) := of_decide_eq_true (by first | (with_reducible assumption) | assumption); have q212 : a1 < (l0.length : Int) := of_decide_eq_true (by first | (with_reducible assumption) | assumption); obtain ⟨ad212, e212, hx212_0⟩ := Kd.at_int HR0.out a1 p212 q212; obtain rfl : ad207 = ad212 := (by injection e212); have hn212_0 : ad207.block ≠ gb211 := Nat.ne_of_lt (Nat.lt_of_lt_of_le (by have := World.block_lt_of_cell? _ _ hx212_0; first | rwa [add_block] at this | exact this) GW211.out); have hn212_1 : ad207.block ≠ gb211 := Nat.ne_of_lt (Nat.lt_of_lt_of_le (by have := World.block_lt_of_cell? _ _ hx212_0; first | rwa [add_block] at this | exact this) GW211.out); have hn212_2 : ad207.block ≠ gb211 := Nat.ne_of_lt (Nat.lt_of_lt_of_le (by have := World.block_lt_of_cell? _ _ hx212_0; first | rwa [add_block] at this | exact this) GW211.out); replace hx212_0 := (HB.out.cell (World.block_lt_of_cell? w _ hx212_0)).trans hx212_0; replace hx212_0 := (cell_far (p := ⟨gb211, 0, none⟩) (by first | (rw [add_block]; exact hn212_0) | (show (Addr.add _ _).block ≠ _; rw [add_block]; exact hn212_0) | exact hn212_0) (.int .i32 65533)).trans hx212_0; replace hx212_0 := (cell_far (p := ⟨gb211, 1, none⟩) (by first | (rw [add_block]; exact hn212_1) | (show (Addr.add _ _).block ≠ _; rw [add_block]; exact hn212_1) | exact hn212_1) (.int .i64 a1)).trans hx212_0; replace hx212_0 := (cell_far (p := ⟨gb211, 2, none⟩) (by first | (rw [add_block]; exact hn212_2) | (show (Addr.add _ _).block ≠ _; rw [add_block]; exact hn212_2) | exact hn212_2) (.int .i64 1)).trans hx212_0; (try have hy212_0 := fun (n_ : Nat) => (show (((((w13.drewN n_).setCell ⟨gb211, 0, none⟩ (.int .i32 65533)).setCell ⟨gb211, 1, none⟩ (.int .i64 a1)).setCell ⟨gb211, 2, none⟩ (.int .i64 1))).cell? _ = some _ from hx212_0)); clear hn212_0; clear hn212_1; clear hn212_2; replace p212 := eq_true p212; replace q212 := eq_true q212; have hcz16_0 : w13.cell? ⟨gb206, 0, none⟩ = some (.int .i32 0) := (blk_cell BK206.out 0).trans rfl; have hcz16_1 : w13.cell? ⟨gb206, 1, none⟩ = some (.int .i64 0) := (blk_cell BK206.out 1).trans rfl; have hcz16_2 : w13.cell? ⟨gb206, 2, none⟩ = some (.int .i64 0) := (blk_cell BK206.out 2).trans rfl; have hfz16_0 := blk_frozen BK206.out 0; have hfz16_1 := blk_frozen BK206.out 1; have hfz16_2 := blk_frozen BK206.out 2)))
                refine bodyPost_ret (results_cell_row rfl _ _ gb206 66 #[.int .i32 (wrap32 (rd l0 a1)), .int .i64 a1, .int .i64 1] (0, 0) _ rfl (by (with_reducible repeat (first | refine blk_drewN ?_ _ | refine blk_drew ?_ | refine blk_alloc ?_ _)); refine blk_put (cs := #[.int .i32 (wrap32 (rd l0 a1)), .int .i64 a1, .int .i64 0]) ?_ 2 _ rfl; (with_reducible repeat (first | refine blk_drewN ?_ _ | refine blk_drew ?_ | refine blk_alloc ?_ _)); refine blk_put (cs := #[.int .i32 (wrap32 (rd l0 a1)), .int .i64 0, .int .i64 0]) ?_ 1 _ rfl; (with_reducible repeat (first | refine blk_drewN ?_ _ | refine blk_drew ?_ | refine blk_alloc ?_ _)); refine blk_put (cs := #[.int .i32 0, .int .i64 0, .int .i64 0]) ?_ 0 _ rfl; (with_reducible repeat (first | refine blk_drewN ?_ _ | refine blk_drew ?_ | refine blk_alloc ?_ _)); refine blk_far ?_ NB206_211.out _; (with_reducible repeat (first | refine blk_drewN ?_ _ | refine blk_drew ?_ | refine blk_alloc ?_ _)); refine blk_far ?_ NB206_211.out _; (with_reducible repeat (first | refine blk_drewN ?_ _ | refine blk_drew ?_ | refine blk_alloc ?_ _)); refine blk_far ?_ NB206_211.out _; (with_reducible repeat (first | refine blk_drewN ?_ _ | refine blk_drew ?_ | refine blk_alloc ?_ _)); refine blk_far ?_ NB206_211.out _; (with_reducible repeat (first | refine blk_drewN ?_ _ | refine blk_drew ?_ | refine blk_alloc ?_ _)); exact BK206.out) Try.underlying66 rfl (by kernel_rfl)) rfl ?_
                exact ⟨by first | rfl | (simp [errW_none, errW_some] <;> rfl) | (simp [*, errW_none, errW_some] <;> rfl), by repeat (first | (with_reducible first | exact HB.out | apply below_alloc | apply pw_below_drewN | apply below_drew1 | refine below_set ?_ GE206.out | refine below_set ?_ GE211.out) | exact HB.out)⟩
              · rw [if_neg c12] at H
                have c12b0 : (t208 == 1) = false := beq_eq_false_iff_ne.mpr c12
                have c12b1 : (t208 != 1) = true := bne_iff_ne.mpr c12
                simp only [Option.some.injEq, Prod.mk.injEq] at H
                obtain ⟨rfl, rfl, rfl⟩ := H
                have p207 : 0 ≤ (a1 : Int) := of_decide_eq_true (by assumption)
                have q207 : a1 < (l0.length : Int) := of_decide_eq_true (by assumption)
                obtain ⟨ad207, e207, hx207_0⟩ := Kd.at_int HR0.out a1 p207 q207
                cases e207
                replace hx207_0 := (HB.out.cell (World.block_lt_of_cell? w _ hx207_0)).trans hx207_0
                replace p207 := eq_true p207
                replace q207 := eq_true q207
                go_wp2_with (first | (go_at_call 63; (with_reducible refine (scal_need.calls kj2 (rd l0 a1) t208 t209 t210 _ A10.out).mono ?_); rintro e w' ⟨rfl, ⟨nd, rfl⟩⟩; (try first | exact ⟨rfl, _, World.drewN_drewN _ _ _⟩ | exact ⟨rfl, _, Eq.trans (World.drewN_drewN _ _ _) (congrArg (World.drewN _) (Nat.add_assoc _ _ _))⟩)) | ((with_reducible refine gate_dst (N := 8) rfl ?_); (try (refine gate_guard (by rfl) ?_; dsimp only)); refine box_event ?hg (N := 8) ?hd (cs := #[.int .i32 0, .int .i64 0, .int .i64 0]) (t := 66) ?hr ?_; (case hd => rfl); (case hg => rfl); (case hr => first | (go_simp; done) | (go_simp; rfl)); intro gb211 hg w17 hbox hb; have n0_ := Aside0.mk (blk_below (g := gb206) (o := .cells #[.int .i32 0, .int .i64 0, .int .i64 0] 66 (0, 0)) (by (with_reducible repeat (first | refine blk_drewN ?_ _ | refine blk_drew ?_ | refine blk_alloc ?_ _)); exact BK206.out) hb); have n1_ := Aside0.mk (below_step (by repeat (first | (with_reducible first | exact HB.out | apply below_alloc | apply pw_below_drewN | apply below_drew1 | refine below_set ?_ GE206.out) | exact HB.out)) hb); have n2_ := Aside0.mk (hbox); have n3_ := Aside0.mk ((by rw [hg]; exact (below_size (by repeat (first | (with_reducible first | exact HB.out | apply below_alloc | apply pw_below_drewN | apply below_drew1 | refine below_set ?_ GE206.out) | exact HB.out))) : w.heap.size ≤ gb211)); have n4_ := Aside0.mk ((by rw [hg]; exact (below_size (by repeat (first | (with_reducible first | exact HB.out | apply below_alloc | apply pw_below_drewN | apply below_drew1 | refine below_set ?_ GE206.out) | exact HB.out))) : w.heap.size ≤ gb211)); have n5_ := Aside0.mk ((by rw [hg]; exact Nat.ne_of_lt (blk_lt (g := gb206) (o := .cells #[.int .i32 0, .int .i64 0, .int .i64 0] 66 (0, 0)) (by (with_reducible repeat (first | refine blk_drewN ?_ _ | refine blk_drew ?_ | refine blk_alloc ?_ _)); exact BK206.out)) : gb206 ≠ gb211)); have n6_ := Aside0.mk ((by rw [hg]; exact Nat.ne_of_gt (blk_lt (g := gb206) (o := .cells #[.int .i32 0, .int .i64 0, .int .i64 0] 66 (0, 0)) (by (with_reducible repeat (first | refine blk_drewN ?_ _ | refine blk_drew ?_ | refine blk_alloc ?_ _)); exact BK206.out)) : gb211 ≠ gb206)); clear BK206; clear HB; have BK206 := n0_; have HB := n1_; have BK211 := n2_; have GW211 := n3_; have GE211 := n4_; have NB206_211 := n5_; have NB211_206 := n6_; clear n0_ n1_ n2_ n3_ n4_ n5_ n6_; clear hb hbox hg; have hnb18 := NB211_206.out; have hnc18 := NB206_211.out; have hcz19_0 : w17.cell? ⟨gb211, 0, none⟩ = some (.int .i32 0) := (blk_cell BK211.out 0).trans rfl; have hcz19_1 : w17.cell? ⟨gb211, 1, none⟩ = some (.int .i64 0) := (blk_cell BK211.out 1).trans rfl; have hcz19_2 : w17.cell? ⟨gb211, 2, none⟩ = some (.int .i64 0) := (blk_cell BK211.out 2).trans rfl; have hfz19_0 := blk_frozen BK211.out 0; have hfz19_1 := blk_frozen BK211.out 1; have hfz19_2 := blk_frozen BK211.out 2; have hcz20_0 : w17.cell? ⟨gb206, 0, none⟩ = some (.int .i32 0) := (blk_cell BK206.out 0).trans rfl; have hcz20_1 : w17.cell? ⟨gb206, 1, none⟩ = some (.int .i64 0) := (blk_cell BK206.out 1).trans rfl; have hcz20_2 : w17.cell? ⟨gb206, 2, none⟩ = some (.int .i64 0) := (blk_cell BK206.out 2).trans rfl; have hfz20_0 := blk_frozen BK206.out 0; have hfz20_1 := blk_frozen BK206.out 1; have hfz20_2 := blk_frozen BK206.out 2))
                repeat (go_quiet (first | (go_at_call 63; (with_reducible refine (scal_need.calls kj2 (rd l0 a1) t208 t209 t210 _ A10.out).mono ?_); rintro e w' ⟨rfl, ⟨nd, rfl⟩⟩; (try first | exact ⟨rfl, _, World.drewN_drewN _ _ _⟩ | exact ⟨rfl, _, Eq.trans (World.drewN_drewN _ _ _) (congrArg (World.drewN _) (Nat.add_assoc _ _ _))⟩)) | ((with_reducible refine gate_dst (N := 8) rfl ?_); (try (refine gate_guard (by rfl) ?_; dsimp only)); refine box_event ?hg (N := 8) ?hd (cs := #[.int .i32 0, .int .i64 0, .int .i64 0]) (t := 66) ?hr ?_; (case hd => rfl); (case hg => rfl); (case hr => first | (go_simp; done) | (go_simp; rfl)); intro gb211 hg w17 hbox hb; have n0_ := Aside0.mk (blk_below (g := gb206) (o := .cells #[.int .i32 0, .int .i64 0, .int .i64 0] 66 (0, 0)) (by (with_reducible repeat (first | refine blk_drewN ?_ _ | refine blk_drew ?_ | refine blk_alloc ?_ _)); exact BK206.out) hb); have n1_ := Aside0.mk (below_step (by repeat (first | (with_reducible first | exact HB.out | apply below_alloc | apply pw_below_drewN | apply below_drew1 | refine below_set ?_ GE206.out) | exact HB.out)) hb); have n2_ := Aside0.mk (hbox); have n3_ := Aside0.mk ((by rw [hg]; exact (below_size (by repeat (first | (with_reducible first | exact HB.out | apply below_alloc | apply pw_below_drewN | apply below_drew1 | refine below_set ?_ GE206.out) | exact HB.out))) : w.heap.size ≤ gb211)); have n4_ := Aside0.mk ((by rw [hg]; exact (below_size (by repeat (first | (with_reducible first | exact HB.out | apply below_alloc | apply pw_below_drewN | apply below_drew1 | refine below_set ?_ GE206.out) | exact HB.out))) : w.heap.size ≤ gb211)); have n5_ := Aside0.mk ((by rw [hg]; exact Nat.ne_of_lt (blk_lt (g := gb206) (o := .cells #[.int .i32 0, .int .i64 0, .int .i64 0] 66 (0, 0)) (by (with_reducible repeat (first | refine blk_drewN ?_ _ | refine blk_drew ?_ | refine blk_alloc ?_ _)); exact BK206.out)) : gb206 ≠ gb211)); have n6_ := Aside0.mk ((by rw [hg]; exact Nat.ne_of_gt (blk_lt (g := gb206) (o := .cells #[.int .i32 0, .int .i64 0, .int .i64 0] 66 (0, 0)) (by (with_reducible repeat (first | refine blk_drewN ?_ _ | refine blk_drew ?_ | refine blk_alloc ?_ _)); exact BK206.out)) : gb211 ≠ gb206)); clear BK206; clear HB; have BK206 := n0_; have HB := n1_; have BK211 := n2_; have GW211 := n3_; have GE211 := n4_; have NB206_211 := n5_; have NB211_206 := n6_; clear n0_ n1_ n2_ n3_ n4_ n5_ n6_; clear hb hbox hg; have hnb18 := NB211_206.out; have hnc18 := NB206_211.out; have hcz19_0 : w17.cell? ⟨gb211, 0, none⟩ = some (.int .i32 0) := (blk_cell BK211.out 0).trans rfl; have hcz19_1 : w17.cell? ⟨gb211, 1, none⟩ = some (.int .i64 0) := (blk_cell BK211.out 1).trans rfl; have hcz19_2 : w17.cell? ⟨gb211, 2, none⟩ = some (.int .i64 0) := (blk_cell BK211.out 2).trans rfl; have hfz19_0 := blk_frozen BK211.out 0; have hfz19_1 := blk_frozen BK211.out 1; have hfz19_2 := blk_frozen BK211.out 2; have hcz20_0 : w17.cell? ⟨gb206, 0, none⟩ = some (.int .i32 0) := (blk_cell BK206.out 0).trans rfl; have hcz20_1 : w17.cell? ⟨gb206, 1, none⟩ = some (.int .i64 0) := (blk_cell BK206.out 1).trans rfl; have hcz20_2 : w17.cell? ⟨gb206, 2, none⟩ = some (.int .i64 0) := (blk_cell BK206.out 2).trans rfl; have hfz20_0 := blk_frozen BK206.out 0; have hfz20_1 := blk_frozen BK206.out 1; have hfz20_2 := blk_frozen BK206.out 2)); try go_wp2_with (first | (go_at_call 63; (with_reducible refine (scal_need.calls kj2 (rd l0 a1) t208 t209 t210 _ A10.out).mono ?_); rintro e w' ⟨rfl, ⟨nd, rfl⟩⟩; (try first | exact ⟨rfl, _, World.drewN_drewN _ _ _⟩ | exact ⟨rfl, _, Eq.trans (World.drewN_drewN _ _ _) (congrArg (World.drewN _) (Nat.add_assoc _ _ _))⟩)) | ((with_reducible refine gate_dst (N := 8) rfl ?_); (try (refine gate_guard (by rfl) ?_; dsimp only)); refine box_event ?hg (N := 8) ?hd (cs := #[.int .i32 0, .int .i64 0, .int .i64 0]) (t := 66) ?hr ?_; (case hd => rfl); (case hg => rfl); (case hr => first | (go_simp; done) | (go_simp; rfl)); intro gb211 hg w17 hbox hb; have n0_ := Aside0.mk (blk_below (g := gb206) (o := .cells #[.int .i32 0, .int .i64 0, .int .i64 0] 66 (0, 0)) (by (with_reducible repeat (first | refine blk_drewN ?_ _ | refine blk_drew ?_ | refine blk_alloc ?_ _)); exact BK206.out) hb); have n1_ := Aside0.mk (below_step (by repeat (first | (with_reducible first | exact HB.out | apply below_alloc | apply pw_below_drewN | apply below_drew1 | refine below_set ?_ GE206.out) | exact HB.out)) hb); have n2_ := Aside0.mk (hbox); have n3_ := Aside0.mk ((by rw [hg]; exact (below_size (by repeat (first | (with_reducible first | exact HB.out | apply below_alloc | apply pw_below_drewN | apply below_drew1 | refine below_set ?_ GE206.out) | exact HB.out))) : w.heap.size ≤ gb211)); have n4_ := Aside0.mk ((by rw [hg]; exact (below_size (by repeat (first | (with_reducible first | exact HB.out | apply below_alloc | apply pw_below_drewN | apply below_drew1 | refine below_set ?_ GE206.out) | exact HB.out))) : w.heap.size ≤ gb211)); have n5_ := Aside0.mk ((by rw [hg]; exact Nat.ne_of_lt (blk_lt (g := gb206) (o := .cells #[.int .i32 0, .int .i64 0, .int .i64 0] 66 (0, 0)) (by (with_reducible repeat (first | refine blk_drewN ?_ _ | refine blk_drew ?_ | refine blk_alloc ?_ _)); exact BK206.out)) : gb206 ≠ gb211)); have n6_ := Aside0.mk ((by rw [hg]; exact Nat.ne_of_gt (blk_lt (g := gb206) (o := .cells #[.int .i32 0, .int .i64 0, .int .i64 0] 66 (0, 0)) (by (with_reducible repeat (first | refine blk_drewN ?_ _ | refine blk_drew ?_ | refine blk_alloc ?_ _)); exact BK206.out)) : gb211 ≠ gb206)); clear BK206; clear HB; have BK206 := n0_; have HB := n1_; have BK211 := n2_; have GW211 := n3_; have GE211 := n4_; have NB206_211 := n5_; have NB211_206 := n6_; clear n0_ n1_ n2_ n3_ n4_ n5_ n6_; clear hb hbox hg; have hnb18 := NB211_206.out; have hnc18 := NB206_211.out; have hcz19_0 : w17.cell? ⟨gb211, 0, none⟩ = some (.int .i32 0) := (blk_cell BK211.out 0).trans rfl; have hcz19_1 : w17.cell? ⟨gb211, 1, none⟩ = some (.int .i64 0) := (blk_cell BK211.out 1).trans rfl; have hcz19_2 : w17.cell? ⟨gb211, 2, none⟩ = some (.int .i64 0) := (blk_cell BK211.out 2).trans rfl; have hfz19_0 := blk_frozen BK211.out 0; have hfz19_1 := blk_frozen BK211.out 1; have hfz19_2 := blk_frozen BK211.out 2; have hcz20_0 : w17.cell? ⟨gb206, 0, none⟩ = some (.int .i32 0) := (blk_cell BK206.out 0).trans rfl; have hcz20_1 : w17.cell? ⟨gb206, 1, none⟩ = some (.int .i64 0) := (blk_cell BK206.out 1).trans rfl; have hcz20_2 : w17.cell? ⟨gb206, 2, none⟩ = some (.int .i64 0) := (blk_cell BK206.out 2).trans rfl; have hfz20_0 := blk_frozen BK206.out 0; have hfz20_1 := blk_frozen BK206.out 1; have hfz20_2 := blk_frozen BK206.out 2)))
                refine bodyPost_ret (results_cell_row rfl _ _ gb206 66 #[.int .i32 65533, .int .i64 a1, .int .i64 1] (0, 0) _ rfl (by (with_reducible repeat (first | refine blk_drewN ?_ _ | refine blk_drew ?_ | refine blk_alloc ?_ _)); refine blk_put (cs := #[.int .i32 65533, .int .i64 a1, .int .i64 0]) ?_ 2 _ rfl; (with_reducible repeat (first | refine blk_drewN ?_ _ | refine blk_drew ?_ | refine blk_alloc ?_ _)); refine blk_put (cs := #[.int .i32 65533, .int .i64 0, .int .i64 0]) ?_ 1 _ rfl; (with_reducible repeat (first | refine blk_drewN ?_ _ | refine blk_drew ?_ | refine blk_alloc ?_ _)); refine blk_put (cs := #[.int .i32 0, .int .i64 0, .int .i64 0]) ?_ 0 _ rfl; (with_reducible repeat (first | refine blk_drewN ?_ _ | refine blk_drew ?_ | refine blk_alloc ?_ _)); refine blk_far ?_ NB206_211.out _; (with_reducible repeat (first | refine blk_drewN ?_ _ | refine blk_drew ?_ | refine blk_alloc ?_ _)); refine blk_far ?_ NB206_211.out _; (with_reducible repeat (first | refine blk_drewN ?_ _ | refine blk_drew ?_ | refine blk_alloc ?_ _)); refine blk_far ?_ NB206_211.out _; (with_reducible repeat (first | refine blk_drewN ?_ _ | refine blk_drew ?_ | refine blk_alloc ?_ _)); exact BK206.out) Try.underlying66 rfl (by kernel_rfl)) rfl ?_
                exact ⟨by first | rfl | (simp [errW_none, errW_some] <;> rfl) | (simp [*, errW_none, errW_some] <;> rfl), by repeat (first | (with_reducible first | exact HB.out | apply below_alloc | apply pw_below_drewN | apply below_drew1 | refine below_set ?_ GE206.out | refine below_set ?_ GE211.out) | exact HB.out)⟩
            · rw [if_neg c11] at H
              have c11b0 : decide (t208 < 2) = false := decide_eq_false c11
              clear c11
              by_cases c21 : 0 ≤ t208
              · rw [if_pos c21] at H
                have c21b0 := eq_true c21
                have c21b1 : decide (0 ≤ t208) = true := decide_eq_true c21
                clear c21
                obtain ⟨ji22, hji22⟩ : ∃ j_ : Int, (shr .i32 127 t208) = j_ := ⟨_, rfl⟩
                replace H : (scal_One.l0 kj2 l0 a1 t208 t209 t210 (Go.bits .and .i32 (wrap32 (rd l0 a1)) (ji22)) 1 65533 a1 1) = some (r1, r2, r3) := by first | (rw [hji22] at H; exact H) | (simp only [hji22] at H ⊢; exact H)
                (try rw [hji22] at A10)
                have hji22_ : (127 / 2 ^ min t208.toNat 32) = ji22 := hji22
                have hji22z : t208 ≤ 32 → (127 / 2 ^ t208.toNat) = ji22 := shr_small hji22
                have H' := Aside0.mk H
                clear H
                have p207 : 0 ≤ (a1 : Int) := of_decide_eq_true (by assumption)
                have q207 : a1 < (l0.length : Int) := of_decide_eq_true (by assumption)
                obtain ⟨ad207, e207, hx207_0⟩ := Kd.at_int HR0.out a1 p207 q207
                cases e207
                replace hx207_0 := (HB.out.cell (World.block_lt_of_cell? w _ hx207_0)).trans hx207_0
                replace p207 := eq_true p207
                replace q207 := eq_true q207
                go_wp2_with (first | (go_at_call 63; (with_reducible refine (scal_need.calls kj2 (rd l0 a1) t208 t209 t210 _ A10.out).mono ?_); rintro e w' ⟨rfl, ⟨nd, rfl⟩⟩; (try first | exact ⟨rfl, _, World.drewN_drewN _ _ _⟩ | exact ⟨rfl, _, Eq.trans (World.drewN_drewN _ _ _) (congrArg (World.drewN _) (Nat.add_assoc _ _ _))⟩)) | ((with_reducible refine gate_dst (N := 8) rfl ?_); (try (refine gate_guard (by rfl) ?_; dsimp only)); refine box_event ?hg (N := 8) ?hd (cs := #[.int .i32 0, .int .i64 0, .int .i64 0]) (t := 66) ?hr ?_; (case hd => rfl); (case hg => rfl); (case hr => first | (go_simp; done) | (go_simp; rfl)); intro gb211 hg w23 hbox hb; have n0_ := Aside0.mk (blk_below (g := gb206) (o := .cells #[.int .i32 0, .int .i64 0, .int .i64 0] 66 (0, 0)) (by (with_reducible repeat (first | refine blk_drewN ?_ _ | refine blk_drew ?_ | refine blk_alloc ?_ _)); exact BK206.out) hb); have n1_ := Aside0.mk (below_step (by repeat (first | (with_reducible first | exact HB.out | apply below_alloc | apply pw_below_drewN | apply below_drew1 | refine below_set ?_ GE206.out) | exact HB.out)) hb); have n2_ := Aside0.mk (hbox); have n3_ := Aside0.mk ((by rw [hg]; exact (below_size (by repeat (first | (with_reducible first | exact HB.out | apply below_alloc | apply pw_below_drewN | apply below_drew1 | refine below_set ?_ GE206.out) | exact HB.out))) : w.heap.size ≤ gb211)); have n4_ := Aside0.mk ((by rw [hg]; exact (below_size (by repeat (first | (with_reducible first | exact HB.out | apply below_alloc | apply pw_below_drewN | apply below_drew1 | refine below_set ?_ GE206.out) | exact HB.out))) : w.heap.size ≤ gb211)); have n5_ := Aside0.mk ((by rw [hg]; exact Nat.ne_of_lt (blk_lt (g := gb206) (o := .cells #[.int .i32 0, .int .i64 0, .int .i64 0] 66 (0, 0)) (by (with_reducible repeat (first | refine blk_drewN ?_ _ | refine blk_drew ?_ | refine blk_alloc ?_ _)); exact BK206.out)) : gb206 ≠ gb211)); have n6_ := Aside0.mk ((by rw [hg]; exact Nat.ne_of_gt (blk_lt (g := gb206) (o := .cells #[.int .i32 0, .int .i64 0, .int .i64 0] 66 (0, 0)) (by (with_reducible repeat (first | refine blk_drewN ?_ _ | refine blk_drew ?_ | refine blk_alloc ?_ _)); exact BK206.out)) : gb211 ≠ gb206)); clear BK206; clear HB; have BK206 := n0_; have HB := n1_; have BK211 := n2_; have GW211 := n3_; have GE211 := n4_; have NB206_211 := n5_; have NB211_206 := n6_; clear n0_ n1_ n2_ n3_ n4_ n5_ n6_; clear hb hbox hg; have hnb24 := NB211_206.out; have hnc24 := NB206_211.out; have hcz25_0 : w23.cell? ⟨gb211, 0, none⟩ = some (.int .i32 0) := (blk_cell BK211.out 0).trans rfl; have hcz25_1 : w23.cell? ⟨gb211, 1, none⟩ = some (.int .i64 0) := (blk_cell BK211.out 1).trans rfl; have hcz25_2 : w23.cell? ⟨gb211, 2, none⟩ = some (.int .i64 0) := (blk_cell BK211.out 2).trans rfl; have hfz25_0 := blk_frozen BK211.out 0; have hfz25_1 := blk_frozen BK211.out 1; have hfz25_2 := blk_frozen BK211.out 2; have p213 : 0 ≤ (a1 : Int) := of_decide_eq_true (by first | (with_reducible assumption) | assumption); have q213 : a1 < (l0.length : Int) := of_decide_eq_true (by first | (with_reducible assumption) | assumption); obtain ⟨ad213, e213, hx213_0⟩ := Kd.at_int HR0.out a1 p213 q213; obtain rfl : ad207 = ad213 := (by injection e213); have hn213_0 : ad207.block ≠ gb211 := Nat.ne_of_lt (Nat.lt_of_lt_of_le (by have := World.block_lt_of_cell? _ _ hx213_0; first | rwa [add_block] at this | exact this) GW211.out); have hn213_1 : ad207.block ≠ gb211 := Nat.ne_of_lt (Nat.lt_of_lt_of_le (by have := World.block_lt_of_cell? _ _ hx213_0; first | rwa [add_block] at this | exact this) GW211.out); have hn213_2 : ad207.block ≠ gb211 := Nat.ne_of_lt (Nat.lt_of_lt_of_le (by have := World.block_lt_of_cell? _ _ hx213_0; first | rwa [add_block] at this | exact this) GW211.out); replace hx213_0 := (HB.out.cell (World.block_lt_of_cell? w _ hx213_0)).trans hx213_0; replace hx213_0 := (cell_far (p := ⟨gb211, 0, none⟩) (by first | (rw [add_block]; exact hn213_0) | (show (Addr.add _ _).block ≠ _; rw [add_block]; exact hn213_0) | exact hn213_0) (.int .i32 65533)).trans hx213_0; replace hx213_0 := (cell_far (p := ⟨gb211, 1, none⟩) (by first | (rw [add_block]; exact hn213_1) | (show (Addr.add _ _).block ≠ _; rw [add_block]; exact hn213_1) | exact hn213_1) (.int .i64 a1)).trans hx213_0; replace hx213_0 := (cell_far (p := ⟨gb211, 2, none⟩) (by first | (rw [add_block]; exact hn213_2) | (show (Addr.add _ _).block ≠ _; rw [add_block]; exact hn213_2) | exact hn213_2) (.int .i64 1)).trans hx213_0; (try have hy213_0 := fun (n_ : Nat) => (show (((((w23.drewN n_).setCell ⟨gb211, 0, none⟩ (.int .i32 65533)).setCell ⟨gb211, 1, none⟩ (.int .i64 a1)).setCell ⟨gb211, 2, none⟩ (.int .i64 1))).cell? _ = some _ from hx213_0)); clear hn213_0; clear hn213_1; clear hn213_2; replace p213 := eq_true p213; replace q213 := eq_true q213))
                repeat (go_quiet (first | (go_at_call 63; (with_reducible refine (scal_need.calls kj2 (rd l0 a1) t208 t209 t210 _ A10.out).mono ?_); rintro e w' ⟨rfl, ⟨nd, rfl⟩⟩; (try first | exact ⟨rfl, _, World.drewN_drewN _ _ _⟩ | exact ⟨rfl, _, Eq.trans (World.drewN_drewN _ _ _) (congrArg (World.drewN _) (Nat.add_assoc _ _ _))⟩)) | ((with_reducible refine gate_dst (N := 8) rfl ?_); (try (refine gate_guard (by rfl) ?_; dsimp only)); refine box_event ?hg (N := 8) ?hd (cs := #[.int .i32 0, .int .i64 0, .int .i64 0]) (t := 66) ?hr ?_; (case hd => rfl); (case hg => rfl); (case hr => first | (go_simp; done) | (go_simp; rfl)); intro gb211 hg w23 hbox hb; have n0_ := Aside0.mk (blk_below (g := gb206) (o := .cells #[.int .i32 0, .int .i64 0, .int .i64 0] 66 (0, 0)) (by (with_reducible repeat (first | refine blk_drewN ?_ _ | refine blk_drew ?_ | refine blk_alloc ?_ _)); exact BK206.out) hb); have n1_ := Aside0.mk (below_step (by repeat (first | (with_reducible first | exact HB.out | apply below_alloc | apply pw_below_drewN | apply below_drew1 | refine below_set ?_ GE206.out) | exact HB.out)) hb); have n2_ := Aside0.mk (hbox); have n3_ := Aside0.mk ((by rw [hg]; exact (below_size (by repeat (first | (with_reducible first | exact HB.out | apply below_alloc | apply pw_below_drewN | apply below_drew1 | refine below_set ?_ GE206.out) | exact HB.out))) : w.heap.size ≤ gb211)); have n4_ := Aside0.mk ((by rw [hg]; exact (below_size (by repeat (first | (with_reducible first | exact HB.out | apply below_alloc | apply pw_below_drewN | apply below_drew1 | refine below_set ?_ GE206.out) | exact HB.out))) : w.heap.size ≤ gb211)); have n5_ := Aside0.mk ((by rw [hg]; exact Nat.ne_of_lt (blk_lt (g := gb206) (o := .cells #[.int .i32 0, .int .i64 0, .int .i64 0] 66 (0, 0)) (by (with_reducible repeat (first | refine blk_drewN ?_ _ | refine blk_drew ?_ | refine blk_alloc ?_ _)); exact BK206.out)) : gb206 ≠ gb211)); have n6_ := Aside0.mk ((by rw [hg]; exact Nat.ne_of_gt (blk_lt (g := gb206) (o := .cells #[.int .i32 0, .int .i64 0, .int .i64 0] 66 (0, 0)) (by (with_reducible repeat (first | refine blk_drewN ?_ _ | refine blk_drew ?_ | refine blk_alloc ?_ _)); exact BK206.out)) : gb211 ≠ gb206)); clear BK206; clear HB; have BK206 := n0_; have HB := n1_; have BK211 := n2_; have GW211 := n3_; have GE211 := n4_; have NB206_211 := n5_; have NB211_206 := n6_; clear n0_ n1_ n2_ n3_ n4_ n5_ n6_; clear hb hbox hg; have hnb24 := NB211_206.out; have hnc24 := NB206_211.out; have hcz25_0 : w23.cell? ⟨gb211, 0, none⟩ = some (.int .i32 0) := (blk_cell BK211.out 0).trans rfl; have hcz25_1 : w23.cell? ⟨gb211, 1, none⟩ = some (.int .i64 0) := (blk_cell BK211.out 1).trans rfl; have hcz25_2 : w23.cell? ⟨gb211, 2, none⟩ = some (.int .i64 0) := (blk_cell BK211.out 2).trans rfl; have hfz25_0 := blk_frozen BK211.out 0; have hfz25_1 := blk_frozen BK211.out 1; have hfz25_2 := blk_frozen BK211.out 2; have p213 : 0 ≤ (a1 : Int) := of_decide_eq_true (by first | (with_reducible assumption) | assumption); have q213 : a1 < (l0.length : Int) := of_decide_eq_true (by first | (with_reducible assumption) | assumption); obtain ⟨ad213, e213, hx213_0⟩ := Kd.at_int HR0.out a1 p213 q213; obtain rfl : ad207 = ad213 := (by injection e213); have hn213_0 : ad207.block ≠ gb211 := Nat.ne_of_lt (Nat.lt_of_lt_of_le (by have := World.block_lt_of_cell? _ _ hx213_0; first | rwa [add_block] at this | exact this) GW211.out); have hn213_1 : ad207.block ≠ gb211 := Nat.ne_of_lt (Nat.lt_of_lt_of_le (by have := World.block_lt_of_cell? _ _ hx213_0; first | rwa [add_block] at this | exact this) GW211.out); have hn213_2 : ad207.block ≠ gb211 := Nat.ne_of_lt (Nat.lt_of_lt_of_le (by have := World.block_lt_of_cell? _ _ hx213_0; first | rwa [add_block] at this | exact this) GW211.out); replace hx213_0 := (HB.out.cell (World.block_lt_of_cell? w _ hx213_0)).trans hx213_0; replace hx213_0 := (cell_far (p := ⟨gb211, 0, none⟩) (by first | (rw [add_block]; exact hn213_0) | (show (Addr.add _ _).block ≠ _; rw [add_block]; exact hn213_0) | exact hn213_0) (.int .i32 65533)).trans hx213_0; replace hx213_0 := (cell_far (p := ⟨gb211, 1, none⟩) (by first | (rw [add_block]; exact hn213_1) | (show (Addr.add _ _).block ≠ _; rw [add_block]; exact hn213_1) | exact hn213_1) (.int .i64 a1)).trans hx213_0; replace hx213_0 := (cell_far (p := ⟨gb211, 2, none⟩) (by first | (rw [add_block]; exact hn213_2) | (show (Addr.add _ _).block ≠ _; rw [add_block]; exact hn213_2) | exact hn213_2) (.int .i64 1)).trans hx213_0; (try have hy213_0 := fun (n_ : Nat) => (show (((((w23.drewN n_).setCell ⟨gb211, 0, none⟩ (.int .i32 65533)).setCell ⟨gb211, 1, none⟩ (.int .i64 a1)).setCell ⟨gb211, 2, none⟩ (.int .i64 1))).cell? _ = some _ from hx213_0)); clear hn213_0; clear hn213_1; clear hn213_2; replace p213 := eq_true p213; replace q213 := eq_true q213)); try go_wp2_with (first | (go_at_call 63; (with_reducible refine (scal_need.calls kj2 (rd l0 a1) t208 t209 t210 _ A10.out).mono ?_); rintro e w' ⟨rfl, ⟨nd, rfl⟩⟩; (try first | exact ⟨rfl, _, World.drewN_drewN _ _ _⟩ | exact ⟨rfl, _, Eq.trans (World.drewN_drewN _ _ _) (congrArg (World.drewN _) (Nat.add_assoc _ _ _))⟩)) | ((with_reducible refine gate_dst (N := 8) rfl ?_); (try (refine gate_guard (by rfl) ?_; dsimp only)); refine box_event ?hg (N := 8) ?hd (cs := #[.int .i32 0, .int .i64 0, .int .i64 0]) (t := 66) ?hr ?_; (case hd => rfl); (case hg => rfl); (case hr => first | (go_simp; done) | (go_simp; rfl)); intro gb211 hg w23 hbox hb; have n0_ := Aside0.mk (blk_below (g := gb206) (o := .cells #[.int .i32 0, .int .i64 0, .int .i64 0] 66 (0, 0)) (by (with_reducible repeat (first | refine blk_drewN ?_ _ | refine blk_drew ?_ | refine blk_alloc ?_ _)); exact BK206.out) hb); have n1_ := Aside0.mk (below_step (by repeat (first | (with_reducible first | exact HB.out | apply below_alloc | apply pw_below_drewN | apply below_drew1 | refine below_set ?_ GE206.out) | exact HB.out)) hb); have n2_ := Aside0.mk (hbox); have n3_ := Aside0.mk ((by rw [hg]; exact (below_size (by repeat (first | (with_reducible first | exact HB.out | apply below_alloc | apply pw_below_drewN | apply below_drew1 | refine below_set ?_ GE206.out) | exact HB.out))) : w.heap.size ≤ gb211)); have n4_ := Aside0.mk ((by rw [hg]; exact (below_size (by repeat (first | (with_reducible first | exact HB.out | apply below_alloc | apply pw_below_drewN | apply below_drew1 | refine below_set ?_ GE206.out) | exact HB.out))) : w.heap.size ≤ gb211)); have n5_ := Aside0.mk ((by rw [hg]; exact Nat.ne_of_lt (blk_lt (g := gb206) (o := .cells #[.int .i32 0, .int .i64 0, .int .i64 0] 66 (0, 0)) (by (with_reducible repeat (first | refine blk_drewN ?_ _ | refine blk_drew ?_ | refine blk_alloc ?_ _)); exact BK206.out)) : gb206 ≠ gb211)); have n6_ := Aside0.mk ((by rw [hg]; exact Nat.ne_of_gt (blk_lt (g := gb206) (o := .cells #[.int .i32 0, .int .i64 0, .int .i64 0] 66 (0, 0)) (by (with_reducible repeat (first | refine blk_drewN ?_ _ | refine blk_drew ?_ | refine blk_alloc ?_ _)); exact BK206.out)) : gb211 ≠ gb206)); clear BK206; clear HB; have BK206 := n0_; have HB := n1_; have BK211 := n2_; have GW211 := n3_; have GE211 := n4_; have NB206_211 := n5_; have NB211_206 := n6_; clear n0_ n1_ n2_ n3_ n4_ n5_ n6_; clear hb hbox hg; have hnb24 := NB211_206.out; have hnc24 := NB206_211.out; have hcz25_0 : w23.cell? ⟨gb211, 0, none⟩ = some (.int .i32 0) := (blk_cell BK211.out 0).trans rfl; have hcz25_1 : w23.cell? ⟨gb211, 1, none⟩ = some (.int .i64 0) := (blk_cell BK211.out 1).trans rfl; have hcz25_2 : w23.cell? ⟨gb211, 2, none⟩ = some (.int .i64 0) := (blk_cell BK211.out 2).trans rfl; have hfz25_0 := blk_frozen BK211.out 0; have hfz25_1 := blk_frozen BK211.out 1; have hfz25_2 := blk_frozen BK211.out 2; have p213 : 0 ≤ (a1 : Int) := of_decide_eq_true (by first | (with_reducible assumption) | assumption); have q213 : a1 < (l0.length : Int) := of_decide_eq_true (by first | (with_reducible assumption) | assumption); obtain ⟨ad213, e213, hx213_0⟩ := Kd.at_int HR0.out a1 p213 q213; obtain rfl : ad207 = ad213 := (by injection e213); have hn213_0 : ad207.block ≠ gb211 := Nat.ne_of_lt (Nat.lt_of_lt_of_le (by have := World.block_lt_of_cell? _ _ hx213_0; first | rwa [add_block] at this | exact this) GW211.out); have hn213_1 : ad207.block ≠ gb211 := Nat.ne_of_lt (Nat.lt_of_lt_of_le (by have := World.block_lt_of_cell? _ _ hx213_0; first | rwa [add_block] at this | exact this) GW211.out); have hn213_2 : ad207.block ≠ gb211 := Nat.ne_of_lt (Nat.lt_of_lt_of_le (by have := World.block_lt_of_cell? _ _ hx213_0; first | rwa [add_block] at this | exact this) GW211.out); replace hx213_0 := (HB.out.cell (World.block_lt_of_cell? w _ hx213_0)).trans hx213_0; replace hx213_0 := (cell_far (p := ⟨gb211, 0, none⟩) (by first | (rw [add_block]; exact hn213_0) | (show (Addr.add _ _).block ≠ _; rw [add_block]; exact hn213_0) | exact hn213_0) (.int .i32 65533)).trans hx213_0; replace hx213_0 := (cell_far (p := ⟨gb211, 1, none⟩) (by first | (rw [add_block]; exact hn213_1) | (show (Addr.add _ _).block ≠ _; rw [add_block]; exact hn213_1) | exact hn213_1) (.int .i64 a1)).trans hx213_0; replace hx213_0 := (cell_far (p := ⟨gb211, 2, none⟩) (by first | (rw [add_block]; exact hn213_2) | (show (Addr.add _ _).block ≠ _; rw [add_block]; exact hn213_2) | exact hn213_2) (.int .i64 1)).trans hx213_0; (try have hy213_0 := fun (n_ : Nat) => (show (((((w23.drewN n_).setCell ⟨gb211, 0, none⟩ (.int .i32 65533)).setCell ⟨gb211, 1, none⟩ (.int .i64 a1)).setCell ⟨gb211, 2, none⟩ (.int .i64 1))).cell? _ = some _ from hx213_0)); clear hn213_0; clear hn213_1; clear hn213_2; replace p213 := eq_true p213; replace q213 := eq_true q213)))
                go_loopg [6, 7, 9, 10] kj2 (fun kq v6 v7 v9 v10 w' => ∃ (x6_2 : Int) (x7_2 : Int) (x9_2 : Int) (x10_2 : Int) (x207000_2 : Int) (x207001_2 : Int) (x207002_2 : Int) (x212002_2 : Int), v6 = .int .u8 x6_2 ∧ v7 = .int .u8 x7_2 ∧ v9 = .int .i32 x9_2 ∧ v10 = .int .i64 x10_2 ∧ Aside0 (scal_One.l0 kq l0 a1 t208 x6_2 x7_2 x9_2 x10_2 65533 a1 x212002_2 = some (r1, r2, r3)) ∧ Aside0 (kq ≤ kj2) ∧ Aside0 (w'.heap[gb206]? = some (.cells #[.int .i32 x207000_2, .int .i64 x207001_2, .int .i64 x207002_2] 66 (0, 0))) ∧ Aside0 (w'.heap[gb211]? = some (.cells #[.int .i32 65533, .int .i64 a1, .int .i64 x212002_2] 66 (0, 0))) ∧ Aside0 (Below w.heap.size w w'))
                case atStart => exact ⟨(t209), (t210), (Go.bits .and .i32 (wrap32 (rd l0 a1)) (ji22)), (1), (0), (0), (0), (1), (rfl), (rfl), (by first | rfl | (simp; done) | (simp only [← hji22] <;> (first | rfl | simp)) | (simp [*]; done)), (rfl), H', ⟨Nat.le_refl _⟩, ⟨by refine blk_far ?_ NB206_211.out _; refine blk_far ?_ NB206_211.out _; refine blk_far ?_ NB206_211.out _; exact BK206.out⟩, ⟨by refine blk_put (cs := #[.int .i32 65533, .int .i64 a1, .int .i64 0]) ?_ 2 _ rfl; refine blk_put (cs := #[.int .i32 65533, .int .i64 0, .int .i64 0]) ?_ 1 _ rfl; refine blk_put (cs := #[.int .i32 0, .int .i64 0, .int .i64 0]) ?_ 0 _ rfl; exact BK211.out⟩, ⟨by repeat (first | (with_reducible first | exact HB.out | apply below_alloc | apply pw_below_drewN | apply below_drew1 | refine below_set ?_ GE206.out | refine below_set ?_ GE211.out) | exact HB.out)⟩⟩
                case round =>
                  clear H'
                  try clear c1
                  try clear c2
                  try clear p2
                  try clear q2
                  try clear hx2
                  try clear p3
                  try clear c5
                  try clear c5b0
                  try clear c6
                  try clear c8
                  try clear c8b0
                  try clear c9
                  try clear c9b0
                  try clear c11
                  try clear c11b0
                  try clear c12
                  try clear c12b0
                  try clear c12b1
                  try clear c14
                  try clear c18
                  try clear p20
                  try clear q20
                  try clear hx20
                  try clear c21
                  try clear c21b0
                  try clear c21b1
                  try clear p21
                  try clear q21
                  try clear hx21
                  try clear c24
                  try clear hcz15_0
                  try clear hcz15_1
                  try clear hcz15_2
                  try clear hcz16_0
                  try clear hcz16_1
                  try clear hcz16_2
                  try clear hcz19_0
                  try clear hcz19_1
                  try clear hcz19_2
                  try clear hcz20_0
                  try clear hcz20_1
                  try clear hcz20_2
                  try clear hcz25_0
                  try clear hcz25_1
                  try clear hcz25_2
                  try clear hcz7_0
                  try clear hcz7_1
                  try clear hcz7_2
                  try clear hfz15_0
                  try clear hfz15_1
                  try clear hfz15_2
                  try clear hfz16_0
                  try clear hfz16_1
                  try clear hfz16_2
                  try clear hfz19_0
                  try clear hfz19_1
                  try clear hfz19_2
                  try clear hfz20_0
                  try clear hfz20_1
                  try clear hfz20_2
                  try clear hfz25_0
                  try clear hfz25_1
                  try clear hfz25_2
                  try clear hfz7_0
                  try clear hfz7_1
                  try clear hfz7_2
                  try clear hx207_0
                  try clear hx212_0
                  try clear hx213_0
                  try clear p2
                  try clear p207
                  try clear p212
                  try clear p213
                  try clear q207
                  try clear q212
                  try clear q213
                  obtain ⟨x6_2, x7_2, x9_2, x10_2, x207000_2, x207001_2, x207002_2, x212002_2, rfl, rfl, rfl, rfl, HA, HK2, BK206, BK211, HB⟩ := hrel
                  cases gk with
                  | zero => exact absurd HA.out (by simp [scal_One.l0])
                  | succ k2 =>
                    have H := HA.out
                    clear HA
                    simp only [scal_One.l0] at H
                    by_cases c26 : x10_2 < t208
                    · rw [if_pos c26] at H
                      have c26b0 : decide (x10_2 < t208) = true := decide_eq_true c26
                      clear c26
                      by_cases c27 : (wrap64 (a1 + x10_2)) ≥ (l0.length : Int)
                      · rw [if_pos c27] at H
                        have c27b0 : decide ((l0.length : Int) ≤ (wrap64 (a1 + x10_2))) = true := decide_eq_true c27
                        clear c27
                        simp only [Option.some.injEq, Prod.mk.injEq] at H
                        obtain ⟨rfl, rfl, rfl⟩ := H
                        have hnb28 := NB211_206.out
                        have hnc28 := NB206_211.out
                        have hcz29_0 : wr.cell? ⟨gb211, 0, none⟩ = some (.int .i32 65533) := (blk_cell BK211.out 0).trans rfl
                        have hcz29_1 : wr.cell? ⟨gb211, 1, none⟩ = some (.int .i64 a1) := (blk_cell BK211.out 1).trans rfl
                        have hcz29_2 : wr.cell? ⟨gb211, 2, none⟩ = some (.int .i64 x212002_2) := (blk_cell BK211.out 2).trans rfl
                        have hfz29_0 := blk_frozen BK211.out 0
                        have hfz29_1 := blk_frozen BK211.out 1
                        have hfz29_2 := blk_frozen BK211.out 2
                        have hcz30_0 : wr.cell? ⟨gb206, 0, none⟩ = some (.int .i32 x207000_2) := (blk_cell BK206.out 0).trans rfl
                        have hcz30_1 : wr.cell? ⟨gb206, 1, none⟩ = some (.int .i64 x207001_2) := (blk_cell BK206.out 1).trans rfl
                        have hcz30_2 : wr.cell? ⟨gb206, 2, none⟩ = some (.int .i64 x207002_2) := (blk_cell BK206.out 2).trans rfl
                        have hfz30_0 := blk_frozen BK206.out 0
                        have hfz30_1 := blk_frozen BK206.out 1
                        have hfz30_2 := blk_frozen BK206.out 2
                        go_wp2
                        repeat (go_quiet (fail); try go_wp2)
                        refine bodyPost_ret (results_cell_row rfl _ _ gb206 66 #[.int .i32 65533, .int .i64 a1, .int .i64 x212002_2] (0, 0) _ rfl (by refine blk_put (cs := #[.int .i32 65533, .int .i64 a1, .int .i64 x207002_2]) ?_ 2 _ rfl; refine blk_put (cs := #[.int .i32 65533, .int .i64 x207001_2, .int .i64 x207002_2]) ?_ 1 _ rfl; refine blk_put (cs := #[.int .i32 x207000_2, .int .i64 x207001_2, .int .i64 x207002_2]) ?_ 0 _ rfl; exact BK206.out) Try.underlying66 rfl (by kernel_rfl)) rfl ?_
                        exact ⟨by first | rfl | (simp [errW_none, errW_some] <;> rfl) | (simp only [← hji22]; first | rfl | (simp [errW_none, errW_some] <;> rfl)) | (simp [*, errW_none, errW_some] <;> rfl), by repeat (first | (with_reducible first | exact HB.out | apply below_alloc | apply pw_below_drewN | apply below_drew1 | refine below_set ?_ GE206.out | refine below_set ?_ GE211.out) | exact HB.out)⟩
                      · rw [if_neg c27] at H
                        have c27b0 : decide ((l0.length : Int) ≤ (wrap64 (a1 + x10_2))) = false := decide_eq_false c27
                        clear c27
                        obtain ⟨ji31, hji31⟩ : ∃ j_ : Int, (wrap64 (a1 + x10_2)) = j_ := ⟨_, rfl⟩
                        replace H : (if 0 ≤ (ji31) then (if (ji31) < (l0.length : Int) then (if (rd l0 (ji31)) < x6_2 then (some (65533, a1, x212002_2)) else (if (rd l0 (ji31)) > x7_2 then (some (65533, a1, x212002_2)) else (scal_One.l0 k2 l0 a1 t208 128 191 (Go.bits .or .i32 (wrap32 (x9_2 * 64)) (wrap32 (Go.bits .and .u8 (rd l0 (ji31)) 63))) (wrap64 (x10_2 + 1)) 65533 a1 (wrap64 (x10_2 + 1))))) else (none)) else (none)) = some (r1, r2, r3) := by first | (rw [hji31] at H; exact H) | (simp only [hji31] at H ⊢; exact H)
                        (try rw [hji31] at c27b0)
                        have hji31w : (IntKind.i64.wrap (a1 + x10_2)) = ji31 := (i64_w _).trans hji31
                        by_cases c32 : 0 ≤ (ji31)
                        · rw [if_pos c32] at H
                          have c32b0 : decide (0 ≤ (ji31)) = true := decide_eq_true c32
                          clear c32
                          by_cases c33 : (ji31) < (l0.length : Int)
                          · rw [if_pos c33] at H
                            have c33b0 : decide ((ji31) < (l0.length : Int)) = true := decide_eq_true c33
                            clear c33
                            by_cases c34 : (rd l0 (ji31)) < x6_2
                            · rw [if_pos c34] at H
                              have c34b0 : decide ((rd l0 (ji31)) < x6_2) = true := decide_eq_true c34
                              clear c34
                              simp only [Option.some.injEq, Prod.mk.injEq] at H
                              obtain ⟨rfl, rfl, rfl⟩ := H
                              have p214 : 0 ≤ ((ji31) : Int) := of_decide_eq_true (by assumption)
                              have q214 : (ji31) < (l0.length : Int) := of_decide_eq_true (by assumption)
                              obtain ⟨ad214, e214, hx214_0⟩ := Kd.at_int HR0.out (ji31) p214 q214
                              obtain rfl : ad207 = ad214 := (by injection e214)
                              replace hx214_0 := (HB.out.cell (World.block_lt_of_cell? w _ hx214_0)).trans hx214_0
                              replace p214 := eq_true p214
                              replace q214 := eq_true q214
                              have hnb35 := NB211_206.out
                              have hnc35 := NB206_211.out
                              have hcz36_0 : wr.cell? ⟨gb211, 0, none⟩ = some (.int .i32 65533) := (blk_cell BK211.out 0).trans rfl
                              have hcz36_1 : wr.cell? ⟨gb211, 1, none⟩ = some (.int .i64 a1) := (blk_cell BK211.out 1).trans rfl
                              have hcz36_2 : wr.cell? ⟨gb211, 2, none⟩ = some (.int .i64 x212002_2) := (blk_cell BK211.out 2).trans rfl
                              have hfz36_0 := blk_frozen BK211.out 0
                              have hfz36_1 := blk_frozen BK211.out 1
                              have hfz36_2 := blk_frozen BK211.out 2
                              have hcz37_0 : wr.cell? ⟨gb206, 0, none⟩ = some (.int .i32 x207000_2) := (blk_cell BK206.out 0).trans rfl
                              have hcz37_1 : wr.cell? ⟨gb206, 1, none⟩ = some (.int .i64 x207001_2) := (blk_cell BK206.out 1).trans rfl
                              have hcz37_2 : wr.cell? ⟨gb206, 2, none⟩ = some (.int .i64 x207002_2) := (blk_cell BK206.out 2).trans rfl
                              have hfz37_0 := blk_frozen BK206.out 0
                              have hfz37_1 := blk_frozen BK206.out 1
                              have hfz37_2 := blk_frozen BK206.out 2
                              go_wp2
                              repeat (go_quiet (fail); try go_wp2)
                              refine bodyPost_ret (results_cell_row rfl _ _ gb206 66 #[.int .i32 65533, .int .i64 a1, .int .i64 x212002_2] (0, 0) _ rfl (by refine blk_put (cs := #[.int .i32 65533, .int .i64 a1, .int .i64 x207002_2]) ?_ 2 _ rfl; refine blk_put (cs := #[.int .i32 65533, .int .i64 x207001_2, .int .i64 x207002_2]) ?_ 1 _ rfl; refine blk_put (cs := #[.int .i32 x207000_2, .int .i64 x207001_2, .int .i64 x207002_2]) ?_ 0 _ rfl; exact BK206.out) Try.underlying66 rfl (by kernel_rfl)) rfl ?_
                              exact ⟨by first | rfl | (simp [errW_none, errW_some] <;> rfl) | (simp only [← hji22, ← hji31]; first | rfl | (simp [errW_none, errW_some] <;> rfl)) | (simp [*, errW_none, errW_some] <;> rfl), by repeat (first | (with_reducible first | exact HB.out | apply below_alloc | apply pw_below_drewN | apply below_drew1 | refine below_set ?_ GE206.out | refine below_set ?_ GE211.out) | exact HB.out)⟩
                            · rw [if_neg c34] at H
                              have c34b0 : decide ((rd l0 (ji31)) < x6_2) = false := decide_eq_false c34
                              clear c34
                              by_cases c38 : (rd l0 (ji31)) > x7_2
                              · rw [if_pos c38] at H
                                have c38b0 : decide (x7_2 < (rd l0 (ji31))) = true := decide_eq_true c38
                                clear c38
                                simp only [Option.some.injEq, Prod.mk.injEq] at H
                                obtain ⟨rfl, rfl, rfl⟩ := H
                                have p214 : 0 ≤ ((ji31) : Int) := of_decide_eq_true (by assumption)
                                have q214 : (ji31) < (l0.length : Int) := of_decide_eq_true (by assumption)
                                obtain ⟨ad214, e214, hx214_0⟩ := Kd.at_int HR0.out (ji31) p214 q214
                                obtain rfl : ad207 = ad214 := (by injection e214)
                                replace hx214_0 := (HB.out.cell (World.block_lt_of_cell? w _ hx214_0)).trans hx214_0
                                replace p214 := eq_true p214
                                replace q214 := eq_true q214
                                have p215 : 0 ≤ ((ji31) : Int) := of_decide_eq_true (by assumption)
                                have q215 : (ji31) < (l0.length : Int) := of_decide_eq_true (by assumption)
                                obtain ⟨ad215, e215, hx215_0⟩ := Kd.at_int HR0.out (ji31) p215 q215
                                obtain rfl : ad207 = ad215 := (by injection e215)
                                replace hx215_0 := (HB.out.cell (World.block_lt_of_cell? w _ hx215_0)).trans hx215_0
                                replace p215 := eq_true p215
                                replace q215 := eq_true q215
                                have hnb39 := NB211_206.out
                                have hnc39 := NB206_211.out
                                have hcz40_0 : wr.cell? ⟨gb211, 0, none⟩ = some (.int .i32 65533) := (blk_cell BK211.out 0).trans rfl
                                have hcz40_1 : wr.cell? ⟨gb211, 1, none⟩ = some (.int .i64 a1) := (blk_cell BK211.out 1).trans rfl
                                have hcz40_2 : wr.cell? ⟨gb211, 2, none⟩ = some (.int .i64 x212002_2) := (blk_cell BK211.out 2).trans rfl
                                have hfz40_0 := blk_frozen BK211.out 0
                                have hfz40_1 := blk_frozen BK211.out 1
                                have hfz40_2 := blk_frozen BK211.out 2
                                have hcz41_0 : wr.cell? ⟨gb206, 0, none⟩ = some (.int .i32 x207000_2) := (blk_cell BK206.out 0).trans rfl
                                have hcz41_1 : wr.cell? ⟨gb206, 1, none⟩ = some (.int .i64 x207001_2) := (blk_cell BK206.out 1).trans rfl
                                have hcz41_2 : wr.cell? ⟨gb206, 2, none⟩ = some (.int .i64 x207002_2) := (blk_cell BK206.out 2).trans rfl
                                have hfz41_0 := blk_frozen BK206.out 0
                                have hfz41_1 := blk_frozen BK206.out 1
                                have hfz41_2 := blk_frozen BK206.out 2
                                go_wp2
                                repeat (go_quiet (fail); try go_wp2)
                                refine bodyPost_ret (results_cell_row rfl _ _ gb206 66 #[.int .i32 65533, .int .i64 a1, .int .i64 x212002_2] (0, 0) _ rfl (by refine blk_put (cs := #[.int .i32 65533, .int .i64 a1, .int .i64 x207002_2]) ?_ 2 _ rfl; refine blk_put (cs := #[.int .i32 65533, .int .i64 x207001_2, .int .i64 x207002_2]) ?_ 1 _ rfl; refine blk_put (cs := #[.int .i32 x207000_2, .int .i64 x207001_2, .int .i64 x207002_2]) ?_ 0 _ rfl; exact BK206.out) Try.underlying66 rfl (by kernel_rfl)) rfl ?_
                                exact ⟨by first | rfl | (simp [errW_none, errW_some] <;> rfl) | (simp only [← hji22, ← hji31]; first | rfl | (simp [errW_none, errW_some] <;> rfl)) | (simp [*, errW_none, errW_some] <;> rfl), by repeat (first | (with_reducible first | exact HB.out | apply below_alloc | apply pw_below_drewN | apply below_drew1 | refine below_set ?_ GE206.out | refine below_set ?_ GE211.out) | exact HB.out)⟩
                              · rw [if_neg c38] at H
                                have c38b0 : decide (x7_2 < (rd l0 (ji31))) = false := decide_eq_false c38
                                clear c38
                                have H' := Aside0.mk H
                                clear H
                                have p214 : 0 ≤ ((ji31) : Int) := of_decide_eq_true (by assumption)
                                have q214 : (ji31) < (l0.length : Int) := of_decide_eq_true (by assumption)
                                obtain ⟨ad214, e214, hx214_0⟩ := Kd.at_int HR0.out (ji31) p214 q214
                                obtain rfl : ad207 = ad214 := (by injection e214)
                                replace hx214_0 := (HB.out.cell (World.block_lt_of_cell? w _ hx214_0)).trans hx214_0
                                replace p214 := eq_true p214
                                replace q214 := eq_true q214
                                have p215 : 0 ≤ ((ji31) : Int) := of_decide_eq_true (by assumption)
                                have q215 : (ji31) < (l0.length : Int) := of_decide_eq_true (by assumption)
                                obtain ⟨ad215, e215, hx215_0⟩ := Kd.at_int HR0.out (ji31) p215 q215
                                obtain rfl : ad207 = ad215 := (by injection e215)
                                replace hx215_0 := (HB.out.cell (World.block_lt_of_cell? w _ hx215_0)).trans hx215_0
                                replace p215 := eq_true p215
                                replace q215 := eq_true q215
                                have p216 : 0 ≤ ((ji31) : Int) := of_decide_eq_true (by assumption)
                                have q216 : (ji31) < (l0.length : Int) := of_decide_eq_true (by assumption)
                                obtain ⟨ad216, e216, hx216_0⟩ := Kd.at_int HR0.out (ji31) p216 q216
                                obtain rfl : ad207 = ad216 := (by injection e216)
                                replace hx216_0 := (HB.out.cell (World.block_lt_of_cell? w _ hx216_0)).trans hx216_0
                                replace p216 := eq_true p216
                                replace q216 := eq_true q216
                                have hnb42 := NB211_206.out
                                have hnc42 := NB206_211.out
                                have hcz43_0 : wr.cell? ⟨gb211, 0, none⟩ = some (.int .i32 65533) := (blk_cell BK211.out 0).trans rfl
                                have hcz43_1 : wr.cell? ⟨gb211, 1, none⟩ = some (.int .i64 a1) := (blk_cell BK211.out 1).trans rfl
                                have hcz43_2 : wr.cell? ⟨gb211, 2, none⟩ = some (.int .i64 x212002_2) := (blk_cell BK211.out 2).trans rfl
                                have hfz43_0 := blk_frozen BK211.out 0
                                have hfz43_1 := blk_frozen BK211.out 1
                                have hfz43_2 := blk_frozen BK211.out 2
                                go_wp2
                                repeat (go_quiet (fail); try go_wp2)
                                go_roundg k2
                                case measure => have := HJ2.out; have := HK2.out; omega
                                case rel => exact ⟨(128), (191), (Go.bits .or .i32 (wrap32 (x9_2 * 64)) (wrap32 (Go.bits .and .u8 (rd l0 (ji31)) 63))), (wrap64 (x10_2 + 1)), (x207000_2), (x207001_2), (x207002_2), (wrap64 (x10_2 + 1)), (rfl), (rfl), (by first | rfl | (simp; done) | (simp only [← hji31] <;> (first | rfl | simp)) | (simp [*]; done)), (rfl), H', ⟨by have := HJ2.out; have := HK2.out; omega⟩, ⟨by refine blk_far ?_ NB206_211.out _; exact BK206.out⟩, ⟨by refine blk_put (cs := #[.int .i32 65533, .int .i64 a1, .int .i64 x212002_2]) ?_ 2 _ rfl; exact BK211.out⟩, ⟨by repeat (first | (with_reducible first | exact HB.out | apply below_alloc | apply pw_below_drewN | apply below_drew1 | refine below_set ?_ GE206.out | refine below_set ?_ GE211.out) | exact HB.out)⟩⟩
                          · rw [if_neg c33] at H
                            exact absurd H (by simp)
                        · rw [if_neg c32] at H
                          exact absurd H (by simp)
                    · rw [if_neg c26] at H
                      have c26b0 : decide (x10_2 < t208) = false := decide_eq_false c26
                      clear c26
                      simp only [Option.some.injEq, Prod.mk.injEq] at H
                      obtain ⟨rfl, rfl, rfl⟩ := H
                      have hnb44 := NB211_206.out
                      have hnc44 := NB206_211.out
                      have hcz45_0 : wr.cell? ⟨gb211, 0, none⟩ = some (.int .i32 65533) := (blk_cell BK211.out 0).trans rfl
                      have hcz45_1 : wr.cell? ⟨gb211, 1, none⟩ = some (.int .i64 a1) := (blk_cell BK211.out 1).trans rfl
                      have hcz45_2 : wr.cell? ⟨gb211, 2, none⟩ = some (.int .i64 x212002_2) := (blk_cell BK211.out 2).trans rfl
                      have hfz45_0 := blk_frozen BK211.out 0
                      have hfz45_1 := blk_frozen BK211.out 1
                      have hfz45_2 := blk_frozen BK211.out 2
                      have hcz46_0 : wr.cell? ⟨gb206, 0, none⟩ = some (.int .i32 x207000_2) := (blk_cell BK206.out 0).trans rfl
                      have hcz46_1 : wr.cell? ⟨gb206, 1, none⟩ = some (.int .i64 x207001_2) := (blk_cell BK206.out 1).trans rfl
                      have hcz46_2 : wr.cell? ⟨gb206, 2, none⟩ = some (.int .i64 x207002_2) := (blk_cell BK206.out 2).trans rfl
                      have hfz46_0 := blk_frozen BK206.out 0
                      have hfz46_1 := blk_frozen BK206.out 1
                      have hfz46_2 := blk_frozen BK206.out 2
                      go_wp2
                      repeat (go_quiet (fail); try go_wp2)
                      refine bodyPost_ret (results_cell_row rfl _ _ gb206 66 #[.int .i32 x9_2, .int .i64 a1, .int .i64 x212002_2] (0, 0) _ rfl (by refine blk_put (cs := #[.int .i32 x9_2, .int .i64 a1, .int .i64 x207002_2]) ?_ 2 _ rfl; refine blk_put (cs := #[.int .i32 x9_2, .int .i64 x207001_2, .int .i64 x207002_2]) ?_ 1 _ rfl; refine blk_put (cs := #[.int .i32 x207000_2, .int .i64 x207001_2, .int .i64 x207002_2]) ?_ 0 _ rfl; refine blk_far ?_ NB206_211.out _; exact BK206.out) Try.underlying66 rfl (by kernel_rfl)) rfl ?_
                      exact ⟨by first | rfl | (simp [errW_none, errW_some] <;> rfl) | (simp only [← hji22]; first | rfl | (simp [errW_none, errW_some] <;> rfl)) | (simp [*, errW_none, errW_some] <;> rfl), by repeat (first | (with_reducible first | exact HB.out | apply below_alloc | apply pw_below_drewN | apply below_drew1 | refine below_set ?_ GE206.out | refine below_set ?_ GE211.out) | exact HB.out)⟩
              · rw [if_neg c21] at H
                exact absurd H (by simp)
          · rw [if_neg c9] at H
            exact absurd H (by simp)
        · rw [if_neg c8] at H
          exact absurd H (by simp)
end Go.Proofs.Ytoefjhdcipgacaa.PA
end
section
namespace Go.Proofs.Ytoefjhdcipgacaa.PA
open Go.RowKit Go.Proofs.YtoefjhdcipgacaaW.PrintWords Go.Proofs.YtoefjhdcipgacaaW.PrintLast Go.Proofs.YtoefjhdcipgacaaW.PrintMore
attribute [local go_sem] max2_int min2_int max_two min_two max_three min_three max_four min_four   -- for this text's walks alone
set_option linter.unusedVariables false
set_option linter.unusedSimpArgs false
def scal_All.l0 : Nat → List Int → List (S66) → Int → Option ((List (S66)))
  | 0, _, _, _ => none
  | k + 1, x0, x3, x4 => if x4 < (x0.length : Int) then ((scal_One.f k x0 x4).bind fun bt217 => (if x3.length < 5864062014805 then (scal_All.l0 k x0 (x3 ++ [(⟨bt217.1, bt217.2.1, bt217.2.2⟩ : S66)]) (wrap64 (x4 + bt217.2.2))) else (none))) else (some x3)
def scal_All.f (k : Nat) (l0 : List Int) : Option ((List (S66))) := scal_All.l0 k l0 ([] : List (S66)) 0
set_option maxHeartbeats 8000000 in
set_option maxRecDepth 100000 in
theorem scal_All.calls (k : Nat) (A0 : Option Addr) (c0 : Nat) (l0 : List Int) (r : List (S66)) (w : World) (hr0 : Kd.C (Kd.int .u8) w A0 l0.length l0) (hc0 : l0.length ≤ c0) (h : scal_All.f k l0 = some r) :
    Calls Try.prog 50 #[.slice A0 l0.length c0] w fun e w' => ∃ v0_ : Value, e = .returned (v0_) ∧ Kd.R k66 66 w' w.heap.size (fun _ => True) v0_ r ∧ Below w.heap.size w w' := by
  have hu66 := Try.underlying66
  have HR0 := Aside0.mk hr0
  have HC0 := Aside0.mk hc0
  clear hr0 hc0
  have HB := Aside0.mk (Below.refl w.heap.size w)
  have H : (scal_All.l0 k l0 ([] : List (S66)) 0) = some r := h
  clear h
  have H' := Aside0.mk H
  clear H
  go_enter Try.func50, Try.ntmps50
  go_wp2
  go_loopg [3, 4] k (fun kq v3 v4 w' => ∃ (x3_1 : List (S66)) (x4_1 : Int), v4 = .int .i64 x4_1 ∧ Aside0 (scal_All.l0 kq l0 x3_1 x4_1 = some r) ∧ Aside0 (kq ≤ k) ∧ Aside0 (Kd.R k66 66 w' w.heap.size (fun _ => True) v3 x3_1) ∧ Aside0 (Below w.heap.size w w'))
  case atStart => exact ⟨(([] : List (S66))), (0), (by first | rfl | (simp; done) | (simp [*]; done)), H', ⟨Nat.le_refl _⟩, ⟨by first | exact Kd.R_nil _ _ _ _ _ | exact Kd.N_nil _ _ _ _ _ | exact Kd.V_nil _ _ _ _ _ | exact Kd.Q_nil _ _ _ _ _ | exact Kd.S_nil _ _ _ _ _⟩, ⟨by repeat (first | (with_reducible first | exact HB.out | apply below_alloc | apply pw_below_drewN | apply below_drew1) | exact HB.out)⟩⟩
  case round =>
    clear H'
    obtain ⟨x3_1, x4_1, rfl, HA, HK1, HO_3, HB⟩ := hrel
    cases gk with
    | zero => exact absurd HA.out (by simp [scal_All.l0])
    | succ k1 =>
      have H := HA.out
      clear HA
      simp only [scal_All.l0] at H
      by_cases c2 : x4_1 < (l0.length : Int)
      · rw [if_pos c2] at H
        have c2b0 : decide (x4_1 < (l0.length : Int)) = true := decide_eq_true c2
        clear c2
        replace H := Option.bind_eq_some_iff.mp H
        obtain ⟨⟨t217, t218, t219⟩, A30, H⟩ := H
        replace H : (if x3_1.length < 5864062014805 then (scal_All.l0 k1 l0 (x3_1 ++ [(⟨t217, t218, t219⟩ : S66)]) (wrap64 (x4_1 + t219))) else (none)) = some r := H
        have A3 := Aside0.mk A30
        clear A30
        by_cases c4 : x3_1.length < 5864062014805
        · rw [if_pos c4] at H
          have LMc4 := Aside0.mk c4
          clear c4
          obtain ⟨y221, hy221⟩ : ∃ y_ : List (S66), y_ = (x3_1 ++ [(⟨t217, t218, t219⟩ : S66)]) := ⟨_, rfl⟩
          replace H : (scal_All.l0 k1 l0 y221 (wrap64 (x4_1 + t219))) = some r := by first | (rw [hy221]; with_reducible exact H) | (have H2_ := (Option.bind_some _ _).symm.trans H; rw [hy221]; with_reducible exact H2_) | (have H2_ := (Option.bind_some _ _).symm.trans H; with_reducible exact H2_) | with_reducible exact H | (rw [hy221]; exact H) | exact H
          have Ny221 := Aside0.mk hy221
          clear hy221
          have H' := Aside0.mk H
          clear H
          go_wp2_with (first | ((with_reducible refine gate_callee (f := 60) rfl ?_); refine goesL_ (some 12) rfl rfl Try.func60 (by kernel_rfl) rfl #[.slice A0 l0.length c0, .int .i64 x4_1] rfl (by (try simp only [List.map_toArray, List.map_cons, List.map_nil]); first | done | rfl | (simp only [List.length_drop, List.length_take]; rfl)) ?_; (with_reducible refine (scal_One.calls k1 _ _ l0 x4_1 t217 t218 t219 _ ?side1 ?side2 A3.out).mono ?_); (case side1 => repeat (first | exact (Kd.C_below HR0.out HB.out) | (with_reducible refine Kd.C_alloc ?_ _) | (with_reducible refine Kd.C_drewN ?_ _) | (with_reducible refine Kd.C_drew ?_))); (case side2 => exact HC0.out); rintro e w5 ⟨rfl, hb⟩; refine ⟨_, rfl, ?_⟩; have n0_ := Aside0.mk (Kd.R_below (by (with_reducible repeat (first | apply Kd.R_alloc | apply Kd.R_drewN | apply Kd.R_drew)); exact HO_3.out) hb); have n1_ := Aside0.mk (below_step (by repeat (first | (with_reducible first | exact HB.out | apply below_alloc | apply pw_below_drewN | apply below_drew1) | exact HB.out)) hb); clear HO_3; clear HB; have HO_3 := n0_; have HB := n1_; clear n0_ n1_; (try clear hb); (try clear hb2); (try clear hk); (try clear hi)) | ((with_reducible refine gate_dst (N := 5) rfl ?_); refine box_event ?hg (N := 5) ?hd (cs := #[.int .i32 0, .int .i64 0, .int .i64 0]) (t := 66) ?hr ?_; (case hd => rfl); (case hg => rfl); (case hr => first | (go_simp; done) | (go_simp; rfl)); intro gb220 hg w6 hbox hb; have n0_ := Aside0.mk (Kd.R_below (Kd.R_elderB (by (with_reducible repeat (first | apply Kd.R_alloc | apply Kd.R_drewN | apply Kd.R_drew)); exact HO_3.out) gb220 (Nat.le_of_eq hg.symm)) hb); have n1_ := Aside0.mk (below_step (by repeat (first | (with_reducible first | exact HB.out | apply below_alloc | apply pw_below_drewN | apply below_drew1) | exact HB.out)) hb); have n2_ := Aside0.mk (hbox); have n3_ := Aside0.mk ((by rw [hg]; exact (below_size (by repeat (first | (with_reducible first | exact HB.out | apply below_alloc | apply pw_below_drewN | apply below_drew1) | exact HB.out))) : w.heap.size ≤ gb220)); have n4_ := Aside0.mk ((by rw [hg]; exact (below_size (by repeat (first | (with_reducible first | exact HB.out | apply below_alloc | apply pw_below_drewN | apply below_drew1) | exact HB.out))) : w.heap.size ≤ gb220)); clear HO_3; clear HB; have HO_3 := n0_; have HB := n1_; have BK220 := n2_; have GW220 := n3_; have GE220 := n4_; clear n0_ n1_ n2_ n3_ n4_; clear hb hbox hg; have hcz7_0 : w6.cell? ⟨gb220, 0, none⟩ = some (.int .i32 0) := (blk_cell BK220.out 0).trans rfl; have hcz7_1 : w6.cell? ⟨gb220, 1, none⟩ = some (.int .i64 0) := (blk_cell BK220.out 1).trans rfl; have hcz7_2 : w6.cell? ⟨gb220, 2, none⟩ = some (.int .i64 0) := (blk_cell BK220.out 2).trans rfl; have hfz7_0 := blk_frozen BK220.out 0; have hfz7_1 := blk_frozen BK220.out 1; have hfz7_2 := blk_frozen BK220.out 2) | ((with_reducible refine gate_builtin (b := .append) (xs := #[.tmp 13, .tmp 15]) rfl ?_); at_builtin; refine Kd.R_append k66 (w0 := w) w.heap.size rfl (.tmp 13) (.tmp 15) 55 66 (.agg #[(.int .i32 0), (.int .i64 0), (.int .i64 0)]) 24 rfl Try.underlying55 info66 rfl (by decide) (by omega) u3 x3_1 (⟨t217, t218, t219⟩ : S66) [.int .i32 t217, .int .i64 t218, .int .i64 t219] (fun k_ => k_ ≠ gb220) (fun _ => False) rfl (by first | (go_simp; done) | (go_simp; rfl)) ?aP (fun _ hk => hk.elim) ?aF ?aO ?aB ?aS ?aL ?_; (case aP => exact k66_mkM _ _ _ (⟨t217, t218, t219⟩ : S66)); (case aB => exact (by repeat (first | (with_reducible first | exact HB.out | apply below_alloc | apply pw_below_drewN | apply below_drew1 | refine below_set ?_ GE220.out) | exact HB.out))); (case aF => exact (fun k_ hk => Kd.freshB (g := gb220) (o := .cells #[.int .i32 t217, .int .i64 t218, .int .i64 t219] 66 (0, 0)) (by (with_reducible repeat (first | refine blk_drewN ?_ _ | refine blk_drew ?_ | refine blk_alloc ?_ _)); refine blk_put (cs := #[.int .i32 t217, .int .i64 t218, .int .i64 0]) ?_ 2 _ rfl; (with_reducible repeat (first | refine blk_drewN ?_ _ | refine blk_drew ?_ | refine blk_alloc ?_ _)); refine blk_put (cs := #[.int .i32 t217, .int .i64 0, .int .i64 0]) ?_ 1 _ rfl; (with_reducible repeat (first | refine blk_drewN ?_ _ | refine blk_drew ?_ | refine blk_alloc ?_ _)); refine blk_put (cs := #[.int .i32 0, .int .i64 0, .int .i64 0]) ?_ 0 _ rfl; (with_reducible repeat (first | refine blk_drewN ?_ _ | refine blk_drew ?_ | refine blk_alloc ?_ _)); exact BK220.out) k_ hk)); (case aO => exact (by (with_reducible repeat (first | apply Kd.R_alloc | apply Kd.R_drewN | apply Kd.R_drew)); exact Kd.R_mono (Kd.R_far (p := ⟨gb220, 2, none⟩) (Kd.R_far (p := ⟨gb220, 1, none⟩) (Kd.R_far (p := ⟨gb220, 0, none⟩) (Kd.R_mono HO_3.out (fun k_ hk => (⟨hk, hk.2⟩ : _ ∧ k_ ≠ gb220))) (fun _ hk => hk.2) (.int .i32 t217)) (fun _ hk => hk.2) (.int .i64 t218)) (fun _ hk => hk.2) (.int .i64 t219)) (fun _ hk => hk.1.2))); (case aS => exact (below_size (by repeat (first | (with_reducible first | exact HB.out | apply below_alloc | apply pw_below_drewN | apply below_drew1 | refine below_set ?_ GE220.out) | exact HB.out)))); (case aL => have := LMc4.out; omega); intro v222 w8 ho hb hg hat; rw [← Ny221.out] at ho; have n0_ := Aside0.mk (blk_grown (g := gb220) (o := .cells #[.int .i32 t217, .int .i64 t218, .int .i64 t219] 66 (0, 0)) (by (with_reducible repeat (first | refine blk_drewN ?_ _ | refine blk_drew ?_ | refine blk_alloc ?_ _)); refine blk_put (cs := #[.int .i32 t217, .int .i64 t218, .int .i64 0]) ?_ 2 _ rfl; (with_reducible repeat (first | refine blk_drewN ?_ _ | refine blk_drew ?_ | refine blk_alloc ?_ _)); refine blk_put (cs := #[.int .i32 t217, .int .i64 0, .int .i64 0]) ?_ 1 _ rfl; (with_reducible repeat (first | refine blk_drewN ?_ _ | refine blk_drew ?_ | refine blk_alloc ?_ _)); refine blk_put (cs := #[.int .i32 0, .int .i64 0, .int .i64 0]) ?_ 0 _ rfl; (with_reducible repeat (first | refine blk_drewN ?_ _ | refine blk_drew ?_ | refine blk_alloc ?_ _)); exact BK220.out) hg (Kd.R_away HO_3.out (fun _ hk => hk.2))); have n1_ := Aside0.mk (hb); have n2_ := Aside0.mk (ho); clear BK220; clear HB; clear HO_3; have BK220 := n0_; have HB := n1_; have HO223 := n2_; clear n0_ n1_ n2_; clear ho hb hg hat; have hcz9_0 : w8.cell? ⟨gb220, 0, none⟩ = some (.int .i32 t217) := (blk_cell BK220.out 0).trans rfl; have hcz9_1 : w8.cell? ⟨gb220, 1, none⟩ = some (.int .i64 t218) := (blk_cell BK220.out 1).trans rfl; have hcz9_2 : w8.cell? ⟨gb220, 2, none⟩ = some (.int .i64 t219) := (blk_cell BK220.out 2).trans rfl; have hfz9_0 := blk_frozen BK220.out 0; have hfz9_1 := blk_frozen BK220.out 1; have hfz9_2 := blk_frozen BK220.out 2))
          go_roundg k1
          case measure => have := HK1.out; omega
          case rel => exact ⟨(y221), (wrap64 (x4_1 + t219)), (by first | rfl | (simp; done) | (simp [*]; done)), H', ⟨by have := HK1.out; omega⟩, ⟨by (with_reducible repeat (first | apply Kd.R_alloc | apply Kd.R_drewN | apply Kd.R_drew)); exact Kd.R_mono HO223.out (fun _ hk => trivial)⟩, ⟨by repeat (first | (with_reducible first | exact HB.out | apply below_alloc | apply pw_below_drewN | apply below_drew1 | refine below_set ?_ GE220.out) | exact HB.out)⟩⟩
        · rw [if_neg c4] at H
          exact absurd H (by simp)
      · rw [if_neg c2] at H
        have c2b0 : decide (x4_1 < (l0.length : Int)) = false := decide_eq_false c2
        clear c2
        obtain rfl := Option.some.inj H
        go_wp2
        go_ret
        exact ⟨_, by first | rfl | (simp [errW_none, errW_some] <;> rfl) | (simp [*, errW_none, errW_some] <;> rfl), by (with_reducible repeat (first | apply Kd.R_alloc | apply Kd.R_drewN | apply Kd.R_drew)); exact HO_3.out, by repeat (first | (with_reducible first | exact HB.out | apply below_alloc | apply pw_below_drewN | apply below_drew1) | exact HB.out)⟩
end Go.Proofs.Ytoefjhdcipgacaa.PA
end
section
namespace Go.Proofs.Ytoefjhdcipgacaa.PA
open Go.RowKit Go.Proofs.YtoefjhdcipgacaaW.PrintWords Go.Proofs.YtoefjhdcipgacaaW.PrintLast Go.Proofs.YtoefjhdcipgacaaW.PrintMore
attribute [local go_sem] max2_int min2_int max_two min_two max_three min_three max_four min_four   -- for this text's walks alone
set_option linter.unusedVariables false
set_option linter.unusedSimpArgs false
def pats_blank.f (a0 : Int) : Option (Bool) := if a0 = 32 then (some true) else (if a0 = 9 then (some true) else (if a0 = 10 then (some true) else (some (a0 == 13))))
set_option maxHeartbeats 8000000 in
set_option maxRecDepth 100000 in
theorem pats_blank.calls (a0 : Int) (r : Bool) (w : World) (h : pats_blank.f a0 = some r) :
    Calls Try.prog 51 #[.int .i32 a0] w fun e w' => e = .returned (.bool r) ∧ Drawn0 w w' := by
  have H : (if a0 = 32 then (some true) else (if a0 = 9 then (some true) else (if a0 = 10 then (some true) else (some (a0 == 13))))) = some r := h
  clear h
  by_cases c2 : a0 = 32
  · rw [if_pos c2] at H
    have c2b0 : (a0 == 32) = true := beq_iff_eq.mpr c2
    have c2b1 : (a0 != 32) = false := bne_eq_false_iff_eq.mpr c2
    clear c2
    obtain rfl := Option.some.inj H
    go_enter Try.func51, Try.ntmps51
    go_wp2
    go_ret
    exact ⟨by first | rfl | (simp; done) | (simp [*]; done), by repeat (first | exact Drawn0.refl _ | apply Drawn0.step)⟩
  · rw [if_neg c2] at H
    have c2b0 : (a0 == 32) = false := beq_eq_false_iff_ne.mpr c2
    have c2b1 : (a0 != 32) = true := bne_iff_ne.mpr c2
    by_cases c3 : a0 = 9
    · rw [if_pos c3] at H
      have c3b0 : (a0 == 9) = true := beq_iff_eq.mpr c3
      have c3b1 : (a0 != 9) = false := bne_eq_false_iff_eq.mpr c3
      clear c3
      obtain rfl := Option.some.inj H
      go_enter Try.func51, Try.ntmps51
      go_wp2
      go_ret
      exact ⟨by first | rfl | (simp; done) | (simp [*]; done), by repeat (first | exact Drawn0.refl _ | apply Drawn0.step)⟩
    · rw [if_neg c3] at H
      have c3b0 : (a0 == 9) = false := beq_eq_false_iff_ne.mpr c3
      have c3b1 : (a0 != 9) = true := bne_iff_ne.mpr c3
      by_cases c4 : a0 = 10
      · rw [if_pos c4] at H
        have c4b0 : (a0 == 10) = true := beq_iff_eq.mpr c4
        have c4b1 : (a0 != 10) = false := bne_eq_false_iff_eq.mpr c4
        clear c4
        obtain rfl := Option.some.inj H
        go_enter Try.func51, Try.ntmps51
        go_wp2
        go_ret
        exact ⟨by first | rfl | (simp; done) | (simp [*]; done), by repeat (first | exact Drawn0.refl _ | apply Drawn0.step)⟩
      · rw [if_neg c4] at H
        have c4b0 : (a0 == 10) = false := beq_eq_false_iff_ne.mpr c4
        have c4b1 : (a0 != 10) = true := bne_iff_ne.mpr c4
        obtain rfl := Option.some.inj H
        go_enter Try.func51, Try.ntmps51
        go_wp2
        go_ret
        exact ⟨by first | rfl | (simp; done) | (simp [*]; done), by repeat (first | exact Drawn0.refl _ | apply Drawn0.step)⟩
end Go.Proofs.Ytoefjhdcipgacaa.PA
end
section
namespace Go.Proofs.Ytoefjhdcipgacaa.PA
open Go.RowKit Go.Proofs.YtoefjhdcipgacaaW.PrintWords Go.Proofs.YtoefjhdcipgacaaW.PrintLast Go.Proofs.YtoefjhdcipgacaaW.PrintMore
attribute [local go_sem] max2_int min2_int max_two min_two max_three min_three max_four min_four   -- for this text's walks alone
set_option linter.unusedVariables false
set_option linter.unusedSimpArgs false
def hyph_Check.l0 : Nat → Int → List (S63) → Int → Int → Option (Bool)
  | 0, _, _, _, _ => none
  | k + 1, x3, x9, x10, x11 => if x11 < x10 then (if 0 ≤ x11 then (if x11 < (x9.length : Int) then (if ((rd_T63 x9 x11).f0) ≤ x3 then (some false) else (if ((rd_T63 x9 x11).f1) < ((rd_T63 x9 x11).f0) then (some false) else (if ((rd_T63 x9 x11).f1) > 1114111 then (some false) else (if ((rd_T63 x9 x11).f2) < 0 then (some false) else (if ((rd_T63 x9 x11).f2) > (wrap64 (1114111 - (wrap64 (wrap32 (((rd_T63 x9 x11).f1) - ((rd_T63 x9 x11).f0)))))) then (some false) else (hyph_Check.l0 k ((rd_T63 x9 x11).f1) x9 x10 (wrap64 (x11 + 1)))))))) else (none)) else (none)) else (some true)
def hyph_Check.f (k : Nat) (l0 : List (S63)) : Option (Bool) := if (l0.length : Int) > 256 then (some false) else (hyph_Check.l0 k (-1) l0 (l0.length : Int) 0)
set_option maxHeartbeats 8000000 in
set_option maxRecDepth 100000 in
theorem hyph_Check.calls (k : Nat) (A0 : Option Addr) (c0 : Nat) (l0 : List (S63)) (r : Bool) (w : World) (hr0 : Kd.C k63 w A0 l0.length l0) (hc0 : l0.length ≤ c0) (h : hyph_Check.f k l0 = some r) :
    Calls Try.prog 34 #[.slice A0 l0.length c0] w fun e w' => e = .returned (.bool r) ∧ Below w.heap.size w w' := by
  have hu63 := Try.underlying63
  have HR0 := Aside0.mk hr0
  have HC0 := Aside0.mk hc0
  clear hr0 hc0
  have HB := Aside0.mk (Below.refl w.heap.size w)
  have H : (if (l0.length : Int) > 256 then (some false) else (hyph_Check.l0 k (-1) l0 (l0.length : Int) 0)) = some r := h
  clear h
  by_cases c2 : (l0.length : Int) > 256
  · rw [if_pos c2] at H
    have c2b0 : decide (256 < (l0.length : Int)) = true := decide_eq_true c2
    have c2b1 : decide (256 < l0.length) = true := decide_eq_true (by omega)
    clear c2
    obtain rfl := Option.some.inj H
    go_enter Try.func34, Try.ntmps34
    go_wp2
    go_ret
    exact ⟨by first | rfl | (simp [errW_none, errW_some] <;> rfl) | (simp [*, errW_none, errW_some] <;> rfl), by repeat (first | (with_reducible first | exact HB.out | apply below_alloc | apply pw_below_drewN | apply below_drew1) | exact HB.out)⟩
  · rw [if_neg c2] at H
    have c2b0 : decide (256 < (l0.length : Int)) = false := decide_eq_false c2
    have c2b1 : decide (256 < l0.length) = false := decide_eq_false (by omega)
    clear c2
    have H' := Aside0.mk H
    clear H
    go_enter Try.func34, Try.ntmps34
    go_wp2
    go_loopg [3, 11] k (fun kq v3 v11 w' => ∃ (x3_1 : Int) (x11_1 : Int), v3 = .int .i32 x3_1 ∧ v11 = .int .i64 x11_1 ∧ Aside0 (hyph_Check.l0 kq x3_1 l0 (l0.length : Int) x11_1 = some r) ∧ Aside0 (kq ≤ k) ∧ Aside0 (Below w.heap.size w w'))
    case atStart => exact ⟨((-1)), (0), (by first | rfl | (simp; done) | (simp [*]; done)), (by first | rfl | (simp; done) | (simp [*]; done)), H', ⟨Nat.le_refl _⟩, ⟨by repeat (first | (with_reducible first | exact HB.out | apply below_alloc | apply pw_below_drewN | apply below_drew1) | exact HB.out)⟩⟩
    case round =>
      clear H'
      try clear c2
      try clear c2b0
      try clear c2b1
      try clear p2
      obtain ⟨x3_1, x11_1, rfl, rfl, HA, HK1, HB⟩ := hrel
      cases gk with
      | zero => exact absurd HA.out (by simp [hyph_Check.l0])
      | succ k1 =>
        have H := HA.out
        clear HA
        simp only [hyph_Check.l0] at H
        by_cases c3 : x11_1 < (l0.length : Int)
        · rw [if_pos c3] at H
          have c3b0 : decide (x11_1 < (l0.length : Int)) = true := decide_eq_true c3
          clear c3
          by_cases c4 : 0 ≤ x11_1
          · rw [if_pos c4] at H
            have c4b0 : decide (0 ≤ x11_1) = true := decide_eq_true c4
            clear c4
            by_cases c5 : x11_1 < (l0.length : Int)
            · rw [if_pos c5] at H
              have c5b0 : decide (x11_1 < (l0.length : Int)) = true := decide_eq_true c5
              clear c5
              by_cases c6 : ((rd_T63 l0 x11_1).f0) ≤ x3_1
              · rw [if_pos c6] at H
                have c6b0 : decide (((rd_T63 l0 x11_1).f0) ≤ x3_1) = true := decide_eq_true c6
                clear c6
                obtain rfl := Option.some.inj H
                have p204 : 0 ≤ (x11_1 : Int) := of_decide_eq_true (by first | (with_reducible assumption) | assumption)
                have q204 : x11_1 < (l0.length : Int) := of_decide_eq_true (by first | (with_reducible assumption) | assumption)
                obtain ⟨ad204, e204, hx204_0, hx204_1, hx204_2⟩ := at_T63 HR0.out x11_1 p204 q204
                cases e204
                replace hx204_0 := (HB.out.cell (World.block_lt_of_cell? w _ hx204_0)).trans hx204_0
                replace hx204_1 := (HB.out.cell (World.block_lt_of_cell? w _ hx204_1)).trans hx204_1
                replace hx204_2 := (HB.out.cell (World.block_lt_of_cell? w _ hx204_2)).trans hx204_2
                replace p204 := eq_true p204
                replace q204 := eq_true q204
                go_wp2_with (first | ((with_reducible refine gate_dst (N := 5) rfl ?_); refine box_event ?hg (N := 5) ?hd (cs := #[.int .i32 0, .int .i32 0, .int .i64 0]) (t := 63) ?hr ?_; (case hd => rfl); (case hg => rfl); (case hr => first | (go_simp; done) | (go_simp; rfl)); intro gb205 hg w7 hbox hb; have n0_ := Aside0.mk (below_step (by repeat (first | (with_reducible first | exact HB.out | apply below_alloc | apply pw_below_drewN | apply below_drew1) | exact HB.out)) hb); have n1_ := Aside0.mk (hbox); have n2_ := Aside0.mk ((by rw [hg]; exact (below_size (by repeat (first | (with_reducible first | exact HB.out | apply below_alloc | apply pw_below_drewN | apply below_drew1) | exact HB.out))) : w.heap.size ≤ gb205)); have n3_ := Aside0.mk ((by rw [hg]; exact (below_size (by repeat (first | (with_reducible first | exact HB.out | apply below_alloc | apply pw_below_drewN | apply below_drew1) | exact HB.out))) : w.heap.size ≤ gb205)); clear HB; have HB := n0_; have BK205 := n1_; have GW205 := n2_; have GE205 := n3_; clear n0_ n1_ n2_ n3_; clear hb hbox hg; have hcz8_0 : w7.cell? ⟨gb205, 0, none⟩ = some (.int .i32 0) := (blk_cell BK205.out 0).trans rfl; have hcz8_1 : w7.cell? ⟨gb205, 1, none⟩ = some (.int .i32 0) := (blk_cell BK205.out 1).trans rfl; have hcz8_2 : w7.cell? ⟨gb205, 2, none⟩ = some (.int .i64 0) := (blk_cell BK205.out 2).trans rfl; have hfz8_0 := blk_frozen BK205.out 0; have hfz8_1 := blk_frozen BK205.out 1; have hfz8_2 := blk_frozen BK205.out 2))
                go_ret
                exact ⟨by first | rfl | (simp [errW_none, errW_some] <;> rfl) | (simp [*, errW_none, errW_some] <;> rfl), by repeat (first | (with_reducible first | exact HB.out | apply below_alloc | apply pw_below_drewN | apply below_drew1 | refine below_set ?_ GE205.out) | exact HB.out)⟩
              · rw [if_neg c6] at H
                have c6b0 : decide (((rd_T63 l0 x11_1).f0) ≤ x3_1) = false := decide_eq_false c6
                clear c6
                by_cases c9 : ((rd_T63 l0 x11_1).f1) < ((rd_T63 l0 x11_1).f0)
                · rw [if_pos c9] at H
                  have c9b0 : decide (((rd_T63 l0 x11_1).f1) < ((rd_T63 l0 x11_1).f0)) = true := decide_eq_true c9
                  clear c9
                  obtain rfl := Option.some.inj H
                  have p204 : 0 ≤ (x11_1 : Int) := of_decide_eq_true (by first | (with_reducible assumption) | assumption)
                  have q204 : x11_1 < (l0.length : Int) := of_decide_eq_true (by first | (with_reducible assumption) | assumption)
                  obtain ⟨ad204, e204, hx204_0, hx204_1, hx204_2⟩ := at_T63 HR0.out x11_1 p204 q204
                  cases e204
                  replace hx204_0 := (HB.out.cell (World.block_lt_of_cell? w _ hx204_0)).trans hx204_0
                  replace hx204_1 := (HB.out.cell (World.block_lt_of_cell? w _ hx204_1)).trans hx204_1
                  replace hx204_2 := (HB.out.cell (World.block_lt_of_cell? w _ hx204_2)).trans hx204_2
                  replace p204 := eq_true p204
                  replace q204 := eq_true q204
                  go_wp2_with (first | ((with_reducible refine gate_dst (N := 5) rfl ?_); refine box_event ?hg (N := 5) ?hd (cs := #[.int .i32 0, .int .i32 0, .int .i64 0]) (t := 63) ?hr ?_; (case hd => rfl); (case hg => rfl); (case hr => first | (go_simp; done) | (go_simp; rfl)); intro gb205 hg w10 hbox hb; have n0_ := Aside0.mk (below_step (by repeat (first | (with_reducible first | exact HB.out | apply below_alloc | apply pw_below_drewN | apply below_drew1) | exact HB.out)) hb); have n1_ := Aside0.mk (hbox); have n2_ := Aside0.mk ((by rw [hg]; exact (below_size (by repeat (first | (with_reducible first | exact HB.out | apply below_alloc | apply pw_below_drewN | apply below_drew1) | exact HB.out))) : w.heap.size ≤ gb205)); have n3_ := Aside0.mk ((by rw [hg]; exact (below_size (by repeat (first | (with_reducible first | exact HB.out | apply below_alloc | apply pw_below_drewN | apply below_drew1) | exact HB.out))) : w.heap.size ≤ gb205)); clear HB; have HB := n0_; have BK205 := n1_; have GW205 := n2_; have GE205 := n3_; clear n0_ n1_ n2_ n3_; clear hb hbox hg; have hcz11_0 : w10.cell? ⟨gb205, 0, none⟩ = some (.int .i32 0) := (blk_cell BK205.out 0).trans rfl; have hcz11_1 : w10.cell? ⟨gb205, 1, none⟩ = some (.int .i32 0) := (blk_cell BK205.out 1).trans rfl; have hcz11_2 : w10.cell? ⟨gb205, 2, none⟩ = some (.int .i64 0) := (blk_cell BK205.out 2).trans rfl; have hfz11_0 := blk_frozen BK205.out 0; have hfz11_1 := blk_frozen BK205.out 1; have hfz11_2 := blk_frozen BK205.out 2))
                  go_ret
                  exact ⟨by first | rfl | (simp [errW_none, errW_some] <;> rfl) | (simp [*, errW_none, errW_some] <;> rfl), by repeat (first | (with_reducible first | exact HB.out | apply below_alloc | apply pw_below_drewN | apply below_drew1 | refine below_set ?_ GE205.out) | exact HB.out)⟩
                · rw [if_neg c9] at H
                  have c9b0 : decide (((rd_T63 l0 x11_1).f1) < ((rd_T63 l0 x11_1).f0)) = false := decide_eq_false c9
                  clear c9
                  by_cases c12 : ((rd_T63 l0 x11_1).f1) > 1114111
                  · rw [if_pos c12] at H
                    have c12b0 : decide (1114111 < ((rd_T63 l0 x11_1).f1)) = true := decide_eq_true c12
                    clear c12
                    obtain rfl := Option.some.inj H
                    have p204 : 0 ≤ (x11_1 : Int) := of_decide_eq_true (by first | (with_reducible assumption) | assumption)
                    have q204 : x11_1 < (l0.length : Int) := of_decide_eq_true (by first | (with_reducible assumption) | assumption)
                    obtain ⟨ad204, e204, hx204_0, hx204_1, hx204_2⟩ := at_T63 HR0.out x11_1 p204 q204
                    cases e204
                    replace hx204_0 := (HB.out.cell (World.block_lt_of_cell? w _ hx204_0)).trans hx204_0
                    replace hx204_1 := (HB.out.cell (World.block_lt_of_cell? w _ hx204_1)).trans hx204_1
                    replace hx204_2 := (HB.out.cell (World.block_lt_of_cell? w _ hx204_2)).trans hx204_2
                    replace p204 := eq_true p204
                    replace q204 := eq_true q204
                    go_wp2_with (first | ((with_reducible refine gate_dst (N := 5) rfl ?_); refine box_event ?hg (N := 5) ?hd (cs := #[.int .i32 0, .int .i32 0, .int .i64 0]) (t := 63) ?hr ?_; (case hd => rfl); (case hg => rfl); (case hr => first | (go_simp; done) | (go_simp; rfl)); intro gb205 hg w13 hbox hb; have n0_ := Aside0.mk (below_step (by repeat (first | (with_reducible first | exact HB.out | apply below_alloc | apply pw_below_drewN | apply below_drew1) | exact HB.out)) hb); have n1_ := Aside0.mk (hbox); have n2_ := Aside0.mk ((by rw [hg]; exact (below_size (by repeat (first | (with_reducible first | exact HB.out | apply below_alloc | apply pw_below_drewN | apply below_drew1) | exact HB.out))) : w.heap.size ≤ gb205)); have n3_ := Aside0.mk ((by rw [hg]; exact (below_size (by repeat (first | (with_reducible first | exact HB.out | apply below_alloc | apply pw_below_drewN | apply below_drew1) | exact HB.out))) : w.heap.size ≤ gb205)); clear HB; have HB := n0_; have BK205 := n1_; have GW205 := n2_; have GE205 := n3_; clear n0_ n1_ n2_ n3_; clear hb hbox hg; have hcz14_0 : w13.cell? ⟨gb205, 0, none⟩ = some (.int .i32 0) := (blk_cell BK205.out 0).trans rfl; have hcz14_1 : w13.cell? ⟨gb205, 1, none⟩ = some (.int .i32 0) := (blk_cell BK205.out 1).trans rfl; have hcz14_2 : w13.cell? ⟨gb205, 2, none⟩ = some (.int .i64 0) := (blk_cell BK205.out 2).trans rfl; have hfz14_0 := blk_frozen BK205.out 0; have hfz14_1 := blk_frozen BK205.out 1; have hfz14_2 := blk_frozen BK205.out 2))
                    go_ret
                    exact ⟨by first | rfl | (simp [errW_none, errW_some] <;> rfl) | (simp [*, errW_none, errW_some] <;> rfl), by repeat (first | (with_reducible first | exact HB.out | apply below_alloc | apply pw_below_drewN | apply below_drew1 | refine below_set ?_ GE205.out) | exact HB.out)⟩
                  · rw [if_neg c12] at H
                    have c12b0 : decide (1114111 < ((rd_T63 l0 x11_1).f1)) = false := decide_eq_false c12
                    clear c12
                    by_cases c15 : ((rd_T63 l0 x11_1).f2) < 0
                    · rw [if_pos c15] at H
                      have c15b0 : decide (((rd_T63 l0 x11_1).f2) < 0) = true := decide_eq_true c15
                      clear c15
                      obtain rfl := Option.some.inj H
                      have p204 : 0 ≤ (x11_1 : Int) := of_decide_eq_true (by first | (with_reducible assumption) | assumption)
                      have q204 : x11_1 < (l0.length : Int) := of_decide_eq_true (by first | (with_reducible assumption) | assumption)
                      obtain ⟨ad204, e204, hx204_0, hx204_1, hx204_2⟩ := at_T63 HR0.out x11_1 p204 q204
                      cases e204
                      replace hx204_0 := (HB.out.cell (World.block_lt_of_cell? w _ hx204_0)).trans hx204_0
                      replace hx204_1 := (HB.out.cell (World.block_lt_of_cell? w _ hx204_1)).trans hx204_1
                      replace hx204_2 := (HB.out.cell (World.block_lt_of_cell? w _ hx204_2)).trans hx204_2
                      replace p204 := eq_true p204
                      replace q204 := eq_true q204
                      go_wp2_with (first | ((with_reducible refine gate_dst (N := 5) rfl ?_); refine box_event ?hg (N := 5) ?hd (cs := #[.int .i32 0, .int .i32 0, .int .i64 0]) (t := 63) ?hr ?_; (case hd => rfl); (case hg => rfl); (case hr => first | (go_simp; done) | (go_simp; rfl)); intro gb205 hg w16 hbox hb; have n0_ := Aside0.mk (below_step (by repeat (first | (with_reducible first | exact HB.out | apply below_alloc | apply pw_below_drewN | apply below_drew1) | exact HB.out)) hb); have n1_ := Aside0.mk (hbox); have n2_ := Aside0.mk ((by rw [hg]; exact (below_size (by repeat (first | (with_reducible first | exact HB.out | apply below_alloc | apply pw_below_drewN | apply below_drew1) | exact HB.out))) : w.heap.size ≤ gb205)); have n3_ := Aside0.mk ((by rw [hg]; exact (below_size (by repeat (first | (with_reducible first | exact HB.out | apply below_alloc | apply pw_below_drewN | apply below_drew1) | exact HB.out))) : w.heap.size ≤ gb205)); clear HB; have HB := n0_; have BK205 := n1_; have GW205 := n2_; have GE205 := n3_; clear n0_ n1_ n2_ n3_; clear hb hbox hg; have hcz17_0 : w16.cell? ⟨gb205, 0, none⟩ = some (.int .i32 0) := (blk_cell BK205.out 0).trans rfl; have hcz17_1 : w16.cell? ⟨gb205, 1, none⟩ = some (.int .i32 0) := (blk_cell BK205.out 1).trans rfl; have hcz17_2 : w16.cell? ⟨gb205, 2, none⟩ = some (.int .i64 0) := (blk_cell BK205.out 2).trans rfl; have hfz17_0 := blk_frozen BK205.out 0; have hfz17_1 := blk_frozen BK205.out 1; have hfz17_2 := blk_frozen BK205.out 2))
                      go_ret
                      exact ⟨by first | rfl | (simp [errW_none, errW_some] <;> rfl) | (simp [*, errW_none, errW_some] <;> rfl), by repeat (first | (with_reducible first | exact HB.out | apply below_alloc | apply pw_below_drewN | apply below_drew1 | refine below_set ?_ GE205.out) | exact HB.out)⟩
                    · rw [if_neg c15] at H
                      have c15b0 : decide (((rd_T63 l0 x11_1).f2) < 0) = false := decide_eq_false c15
                      clear c15
                      by_cases c18 : ((rd_T63 l0 x11_1).f2) > (wrap64 (1114111 - (wrap64 (wrap32 (((rd_T63 l0 x11_1).f1) - ((rd_T63 l0 x11_1).f0))))))
                      · rw [if_pos c18] at H
                        have c18b0 : decide ((wrap64 (1114111 - (wrap64 (wrap32 (((rd_T63 l0 x11_1).f1) - ((rd_T63 l0 x11_1).f0)))))) < ((rd_T63 l0 x11_1).f2)) = true := decide_eq_true c18
                        clear c18
                        obtain rfl := Option.some.inj H
                        have p204 : 0 ≤ (x11_1 : Int) := of_decide_eq_true (by first | (with_reducible assumption) | assumption)
                        have q204 : x11_1 < (l0.length : Int) := of_decide_eq_true (by first | (with_reducible assumption) | assumption)
                        obtain ⟨ad204, e204, hx204_0, hx204_1, hx204_2⟩ := at_T63 HR0.out x11_1 p204 q204
                        cases e204
                        replace hx204_0 := (HB.out.cell (World.block_lt_of_cell? w _ hx204_0)).trans hx204_0
                        replace hx204_1 := (HB.out.cell (World.block_lt_of_cell? w _ hx204_1)).trans hx204_1
                        replace hx204_2 := (HB.out.cell (World.block_lt_of_cell? w _ hx204_2)).trans hx204_2
                        replace p204 := eq_true p204
                        replace q204 := eq_true q204
                        go_wp2_with (first | ((with_reducible refine gate_dst (N := 5) rfl ?_); refine box_event ?hg (N := 5) ?hd (cs := #[.int .i32 0, .int .i32 0, .int .i64 0]) (t := 63) ?hr ?_; (case hd => rfl); (case hg => rfl); (case hr => first | (go_simp; done) | (go_simp; rfl)); intro gb205 hg w19 hbox hb; have n0_ := Aside0.mk (below_step (by repeat (first | (with_reducible first | exact HB.out | apply below_alloc | apply pw_below_drewN | apply below_drew1) | exact HB.out)) hb); have n1_ := Aside0.mk (hbox); have n2_ := Aside0.mk ((by rw [hg]; exact (below_size (by repeat (first | (with_reducible first | exact HB.out | apply below_alloc | apply pw_below_drewN | apply below_drew1) | exact HB.out))) : w.heap.size ≤ gb205)); have n3_ := Aside0.mk ((by rw [hg]; exact (below_size (by repeat (first | (with_reducible first | exact HB.out | apply below_alloc | apply pw_below_drewN | apply below_drew1) | exact HB.out))) : w.heap.size ≤ gb205)); clear HB; have HB := n0_; have BK205 := n1_; have GW205 := n2_; have GE205 := n3_; clear n0_ n1_ n2_ n3_; clear hb hbox hg; have hcz20_0 : w19.cell? ⟨gb205, 0, none⟩ = some (.int .i32 0) := (blk_cell BK205.out 0).trans rfl; have hcz20_1 : w19.cell? ⟨gb205, 1, none⟩ = some (.int .i32 0) := (blk_cell BK205.out 1).trans rfl; have hcz20_2 : w19.cell? ⟨gb205, 2, none⟩ = some (.int .i64 0) := (blk_cell BK205.out 2).trans rfl; have hfz20_0 := blk_frozen BK205.out 0; have hfz20_1 := blk_frozen BK205.out 1; have hfz20_2 := blk_frozen BK205.out 2))
                        go_ret
                        exact ⟨by first | rfl | (simp [errW_none, errW_some] <;> rfl) | (simp [*, errW_none, errW_some] <;> rfl), by repeat (first | (with_reducible first | exact HB.out | apply below_alloc | apply pw_below_drewN | apply below_drew1 | refine below_set ?_ GE205.out) | exact HB.out)⟩
                      · rw [if_neg c18] at H
                        have c18b0 : decide ((wrap64 (1114111 - (wrap64 (wrap32 (((rd_T63 l0 x11_1).f1) - ((rd_T63 l0 x11_1).f0)))))) < ((rd_T63 l0 x11_1).f2)) = false := decide_eq_false c18
                        clear c18
                        have H' := Aside0.mk H
                        clear H
                        have p204 : 0 ≤ (x11_1 : Int) := of_decide_eq_true (by first | (with_reducible assumption) | assumption)
                        have q204 : x11_1 < (l0.length : Int) := of_decide_eq_true (by first | (with_reducible assumption) | assumption)
                        obtain ⟨ad204, e204, hx204_0, hx204_1, hx204_2⟩ := at_T63 HR0.out x11_1 p204 q204
                        cases e204
                        replace hx204_0 := (HB.out.cell (World.block_lt_of_cell? w _ hx204_0)).trans hx204_0
                        replace hx204_1 := (HB.out.cell (World.block_lt_of_cell? w _ hx204_1)).trans hx204_1
                        replace hx204_2 := (HB.out.cell (World.block_lt_of_cell? w _ hx204_2)).trans hx204_2
                        replace p204 := eq_true p204
                        replace q204 := eq_true q204
                        go_wp2_with (first | ((with_reducible refine gate_dst (N := 5) rfl ?_); refine box_event ?hg (N := 5) ?hd (cs := #[.int .i32 0, .int .i32 0, .int .i64 0]) (t := 63) ?hr ?_; (case hd => rfl); (case hg => rfl); (case hr => first | (go_simp; done) | (go_simp; rfl)); intro gb205 hg w21 hbox hb; have n0_ := Aside0.mk (below_step (by repeat (first | (with_reducible first | exact HB.out | apply below_alloc | apply pw_below_drewN | apply below_drew1) | exact HB.out)) hb); have n1_ := Aside0.mk (hbox); have n2_ := Aside0.mk ((by rw [hg]; exact (below_size (by repeat (first | (with_reducible first | exact HB.out | apply below_alloc | apply pw_below_drewN | apply below_drew1) | exact HB.out))) : w.heap.size ≤ gb205)); have n3_ := Aside0.mk ((by rw [hg]; exact (below_size (by repeat (first | (with_reducible first | exact HB.out | apply below_alloc | apply pw_below_drewN | apply below_drew1) | exact HB.out))) : w.heap.size ≤ gb205)); clear HB; have HB := n0_; have BK205 := n1_; have GW205 := n2_; have GE205 := n3_; clear n0_ n1_ n2_ n3_; clear hb hbox hg; have hcz22_0 : w21.cell? ⟨gb205, 0, none⟩ = some (.int .i32 0) := (blk_cell BK205.out 0).trans rfl; have hcz22_1 : w21.cell? ⟨gb205, 1, none⟩ = some (.int .i32 0) := (blk_cell BK205.out 1).trans rfl; have hcz22_2 : w21.cell? ⟨gb205, 2, none⟩ = some (.int .i64 0) := (blk_cell BK205.out 2).trans rfl; have hfz22_0 := blk_frozen BK205.out 0; have hfz22_1 := blk_frozen BK205.out 1; have hfz22_2 := blk_frozen BK205.out 2))
                        go_roundg k1
                        case measure => have := HK1.out; omega
                        case rel => exact ⟨((rd_T63 l0 x11_1).f1), (wrap64 (x11_1 + 1)), (by first | rfl | (simp; done) | (simp [*]; done)), (by first | rfl | (simp; done) | (simp [*]; done)), H', ⟨by have := HK1.out; omega⟩, ⟨by repeat (first | (with_reducible first | exact HB.out | apply below_alloc | apply pw_below_drewN | apply below_drew1 | refine below_set ?_ GE205.out) | exact HB.out)⟩⟩
            · rw [if_neg c5] at H
              exact absurd H (by simp)
          · rw [if_neg c4] at H
            exact absurd H (by simp)
        · rw [if_neg c3] at H
          have c3b0 : decide (x11_1 < (l0.length : Int)) = false := decide_eq_false c3
          clear c3
          obtain rfl := Option.some.inj H
          go_wp2
          go_ret
          exact ⟨by first | rfl | (simp [errW_none, errW_some] <;> rfl) | (simp [*, errW_none, errW_some] <;> rfl), by repeat (first | (with_reducible first | exact HB.out | apply below_alloc | apply pw_below_drewN | apply below_drew1) | exact HB.out)⟩
end Go.Proofs.Ytoefjhdcipgacaa.PA
end
section
namespace Go.Proofs.Ytoefjhdcipgacaa.PA
open Go.RowKit Go.Proofs.YtoefjhdcipgacaaW.PrintWords Go.Proofs.YtoefjhdcipgacaaW.PrintLast Go.Proofs.YtoefjhdcipgacaaW.PrintMore
attribute [local go_sem] max2_int min2_int max_two min_two max_three min_three max_four min_four   -- for this text's walks alone
set_option linter.unusedVariables false
set_option linter.unusedSimpArgs false
def stanzalaw09_low.f  : Option ((List (S63))) := some (([(⟨97, 122, 97⟩ : S63)] : List (S63)))
set_option maxHeartbeats 8000000 in
set_option maxRecDepth 100000 in
theorem stanzalaw09_low.calls  (r : List (S63)) (w : World) (h : stanzalaw09_low.f  = some r) :
    Calls Try.prog 36 #[] w fun e w' => ∃ v0_ : Value, e = .returned (v0_) ∧ Kd.R k63 63 w' w.heap.size (fun _ => True) v0_ r ∧ Below w.heap.size w w' := by
  have hu63 := Try.underlying63
  have HB := Aside0.mk (Below.refl w.heap.size w)
  have H : (some (([(⟨97, 122, 97⟩ : S63)] : List (S63)))) = some r := h
  clear h
  obtain ⟨y228, hy228⟩ : ∃ y_ : List (S63), y_ = (([(⟨97, 122, 97⟩ : S63)] : List (S63))) := ⟨_, rfl⟩
  replace H : (some y228) = some r := by first | (rw [hy228]; with_reducible exact H) | (have H2_ := (Option.bind_some _ _).symm.trans H; rw [hy228]; with_reducible exact H2_) | (have H2_ := (Option.bind_some _ _).symm.trans H; with_reducible exact H2_) | with_reducible exact H | (rw [hy228]; exact H) | exact H
  have Ny228 := Aside0.mk hy228
  clear hy228
  obtain rfl := Option.some.inj H
  go_enter Try.func36, Try.ntmps36
  go_wp2_with (first | ((with_reducible refine gate_dst (N := 2) rfl ?_); refine Kd.R_lit k63 _ 63 ?hg (N := 2) ?hd (xs := ([(⟨97, 122, 97⟩ : S63)] : List (S63))) (inner := [.int .i32 97, .int .i32 122, .int .i64 97]) (ok := fun _ => True) (okp := fun _ => True) ?hr ?hp (fun _ hk => hk) trivial (Below.refl _ _) (Nat.le_refl _) (by simp) ?_; (case hd => rfl); (case hg => rfl); (case hr => first | (go_simp; done) | (go_simp; rfl)); (case hp => exact (Reps.c3 (show Kd.M k63 _ _ _ (⟨97, 122, 97⟩ : S63) [.int .i32 97, .int .i32 122, .int .i64 97] from (k63_mkM _ _ _ (⟨97, 122, 97⟩ : S63) )) (Reps.none _ _))); intro v229 w1 ho2 hb hg_ hnew_; clear hg_ hnew_; (first | rw [← Ny228.out] at ho2 | (simp only [Int.reduceToNat] at ho2; rw [← Ny228.out] at ho2)); have n0_ := Aside0.mk (Kd.R_lower ho2 (below_size (by repeat (first | (with_reducible first | exact HB.out | apply below_alloc | apply pw_below_drewN | apply below_drew1) | exact HB.out)))); have n1_ := Aside0.mk (below_step (by repeat (first | (with_reducible first | exact HB.out | apply below_alloc | apply pw_below_drewN | apply below_drew1) | exact HB.out)) hb); clear HB; have HO230 := n0_; have HB := n1_; clear n0_ n1_; clear hb ho2))
  go_ret
  exact ⟨_, by first | rfl | (simp [errW_none, errW_some] <;> rfl) | (simp [*, errW_none, errW_some] <;> rfl), by (with_reducible repeat (first | apply Kd.R_alloc | apply Kd.R_drewN | apply Kd.R_drew)); exact HO230.out, by repeat (first | (with_reducible first | exact HB.out | apply below_alloc | apply pw_below_drewN | apply below_drew1) | exact HB.out)⟩
end Go.Proofs.Ytoefjhdcipgacaa.PA
end
section
namespace Go.Proofs.Ytoefjhdcipgacaa.PA
open Go.RowKit Go.Proofs.YtoefjhdcipgacaaW.PrintWords Go.Proofs.YtoefjhdcipgacaaW.PrintLast Go.Proofs.YtoefjhdcipgacaaW.PrintMore
attribute [local go_sem] max2_int min2_int max_two min_two max_three min_three max_four min_four   -- for this text's walks alone
set_option linter.unusedVariables false
set_option linter.unusedSimpArgs false
def stanzalaw09_few.l0 : Nat → Bool → List Int → List Int → Int → Int → Option (List Int)
  | 0, _, _, _, _, _ => none
  | k + 1, x1, x5, x8, x9, x10 => if x10 < x9 then (if 0 ≤ x10 then (if x10 < (x8.length : Int) then (if x10 ≥ 80 then (some x5) else (if x1 = true then ((some (([97, 98, 99, 100] : List Int) : List Int)).bind fun y333 => (if 0 ≤ (((rd x8 x10) % 4294967296) % 4) then (if (((rd x8 x10) % 4294967296) % 4) < (y333.length : Int) then (if x5.length < 35184372088832 then (stanzalaw09_few.l0 k x1 (x5 ++ [rd y333 (((rd x8 x10) % 4294967296) % 4)]) x8 x9 (wrap64 (x10 + 1))) else (none)) else (none)) else (none))) else (if x5.length < 35184372088832 then (stanzalaw09_few.l0 k x1 (x5 ++ [rd x8 x10]) x8 x9 (wrap64 (x10 + 1))) else (none)))) else (none)) else (none)) else (some x5)
def stanzalaw09_few.f (k : Nat) (l0 : List Int) (a1 : Bool) : Option (List Int) := stanzalaw09_few.l0 k a1 ([] : List Int) l0 (l0.length : Int) 0
set_option maxHeartbeats 8000000 in
set_option maxRecDepth 100000 in
theorem stanzalaw09_few.calls (k : Nat) (A0 : Option Addr) (c0 : Nat) (l0 : List Int) (a1 : Bool) (r : List Int) (w : World) (hr0 : Kd.C (Kd.int .i32) w A0 l0.length l0) (hc0 : l0.length ≤ c0) (h : stanzalaw09_few.f k l0 a1 = some r) :
    Calls Try.prog 32 #[.slice A0 l0.length c0, .bool a1] w fun e w' => ∃ v0_ : Value, e = .returned (v0_) ∧ Kd.R (Kd.int .i32) 21 w' w.heap.size (fun _ => True) v0_ r ∧ Below w.heap.size w w' := by
  have HR0 := Aside0.mk hr0
  have HC0 := Aside0.mk hc0
  clear hr0 hc0
  have HB := Aside0.mk (Below.refl w.heap.size w)
  have H : (stanzalaw09_few.l0 k a1 ([] : List Int) l0 (l0.length : Int) 0) = some r := h
  clear h
  have H' := Aside0.mk H
  clear H
  go_enter Try.func32, Try.ntmps32
  go_wp2
  go_loopg [5, 10] k (fun kq v5 v10 w' => ∃ (x5_1 : List Int) (x10_1 : Int), v10 = .int .i64 x10_1 ∧ Aside0 (stanzalaw09_few.l0 kq a1 x5_1 l0 (l0.length : Int) x10_1 = some r) ∧ Aside0 (kq ≤ k) ∧ Aside0 (Kd.R (Kd.int .i32) 21 w' w.heap.size (fun _ => True) v5 x5_1) ∧ Aside0 (Below w.heap.size w w'))
  case atStart => exact ⟨(([] : List Int)), (0), (by first | rfl | (simp; done) | (simp [*]; done)), H', ⟨Nat.le_refl _⟩, ⟨by first | exact Kd.R_nil _ _ _ _ _ | exact Kd.N_nil _ _ _ _ _ | exact Kd.V_nil _ _ _ _ _ | exact Kd.Q_nil _ _ _ _ _ | exact Kd.S_nil _ _ _ _ _⟩, ⟨by repeat (first | (with_reducible first | exact HB.out | apply below_alloc | apply pw_below_drewN | apply below_drew1) | exact HB.out)⟩⟩
  case round =>
    clear H'
    try clear p2
    obtain ⟨x5_1, x10_1, rfl, HA, HK1, HO_5, HB⟩ := hrel
    cases gk with
    | zero => exact absurd HA.out (by simp [stanzalaw09_few.l0])
    | succ k1 =>
      have H := HA.out
      clear HA
      simp only [stanzalaw09_few.l0] at H
      by_cases c3 : x10_1 < (l0.length : Int)
      · rw [if_pos c3] at H
        have c3b0 : decide (x10_1 < (l0.length : Int)) = true := decide_eq_true c3
        clear c3
        by_cases c4 : 0 ≤ x10_1
        · rw [if_pos c4] at H
          have c4b0 : decide (0 ≤ x10_1) = true := decide_eq_true c4
          clear c4
          by_cases c5 : x10_1 < (l0.length : Int)
          · rw [if_pos c5] at H
            have c5b0 : decide (x10_1 < (l0.length : Int)) = true := decide_eq_true c5
            clear c5
            by_cases c6 : x10_1 ≥ 80
            · rw [if_pos c6] at H
              have c6b0 : decide (80 ≤ x10_1) = true := decide_eq_true c6
              clear c6
              obtain rfl := Option.some.inj H
              have p332 : 0 ≤ (x10_1 : Int) := of_decide_eq_true (by first | (with_reducible assumption) | assumption)
              have q332 : x10_1 < (l0.length : Int) := of_decide_eq_true (by first | (with_reducible assumption) | assumption)
              obtain ⟨ad332, e332, hx332_0⟩ := Kd.at_int HR0.out x10_1 p332 q332
              cases e332
              replace hx332_0 := (HB.out.cell (World.block_lt_of_cell? w _ hx332_0)).trans hx332_0
              replace p332 := eq_true p332
              replace q332 := eq_true q332
              go_wp2
              go_ret
              exact ⟨_, by first | rfl | (simp [errW_none, errW_some] <;> rfl) | (simp [*, errW_none, errW_some] <;> rfl), by (with_reducible repeat (first | apply Kd.R_alloc | apply Kd.R_drewN | apply Kd.R_drew)); exact HO_5.out, by repeat (first | (with_reducible first | exact HB.out | apply below_alloc | apply pw_below_drewN | apply below_drew1) | exact HB.out)⟩
            · rw [if_neg c6] at H
              have c6b0 : decide (80 ≤ x10_1) = false := decide_eq_false c6
              clear c6
              by_cases c7 : a1 = true
              · subst c7
                have H1 : ((some (([97, 98, 99, 100] : List Int) : List Int)).bind fun y333 => (if 0 ≤ (((rd l0 x10_1) % 4294967296) % 4) then (if (((rd l0 x10_1) % 4294967296) % 4) < (y333.length : Int) then (if x5_1.length < 35184372088832 then (stanzalaw09_few.l0 k1 true (x5_1 ++ [rd y333 (((rd l0 x10_1) % 4294967296) % 4)]) l0 (l0.length : Int) (wrap64 (x10_1 + 1))) else (none)) else (none)) else (none))) = some r := by rw [if_pos rfl] at H; exact H
                clear H
                have H := H1
                clear H1
                obtain ⟨y333, hy333⟩ : ∃ y_ : List Int, y_ = (([97, 98, 99, 100] : List Int)) := ⟨_, rfl⟩
                replace H : (if 0 ≤ (((rd l0 x10_1) % 4294967296) % 4) then (if (((rd l0 x10_1) % 4294967296) % 4) < (y333.length : Int) then (if x5_1.length < 35184372088832 then (stanzalaw09_few.l0 k1 true (x5_1 ++ [rd y333 (((rd l0 x10_1) % 4294967296) % 4)]) l0 (l0.length : Int) (wrap64 (x10_1 + 1))) else (none)) else (none)) else (none)) = some r := by first | (rw [hy333]; with_reducible exact H) | (have H2_ := (Option.bind_some _ _).symm.trans H; rw [hy333]; with_reducible exact H2_) | (have H2_ := (Option.bind_some _ _).symm.trans H; with_reducible exact H2_) | with_reducible exact H | (rw [hy333]; exact H) | exact H
                have Ny333 := Aside0.mk hy333
                clear hy333
                obtain ⟨ji8, hji8⟩ : ∃ j_ : Int, (((rd l0 x10_1) % 4294967296) % 4) = j_ := ⟨_, rfl⟩
                replace H : (if 0 ≤ (ji8) then (if (ji8) < (y333.length : Int) then (if x5_1.length < 35184372088832 then (stanzalaw09_few.l0 k1 true (x5_1 ++ [rd y333 (ji8)]) l0 (l0.length : Int) (wrap64 (x10_1 + 1))) else (none)) else (none)) else (none)) = some r := by first | (rw [hji8] at H; exact H) | (simp only [hji8] at H ⊢; exact H)
                by_cases c9 : 0 ≤ (ji8)
                · rw [if_pos c9] at H
                  have c9b0 : decide (0 ≤ (ji8)) = true := decide_eq_true c9
                  clear c9
                  by_cases c10 : (ji8) < (y333.length : Int)
                  · rw [if_pos c10] at H
                    have c10b0 : decide ((ji8) < (y333.length : Int)) = true := decide_eq_true c10
                    clear c10
                    by_cases c11 : x5_1.length < 35184372088832
                    · rw [if_pos c11] at H
                      have LMc11 := Aside0.mk c11
                      clear c11
                      obtain ⟨y337, hy337⟩ : ∃ y_ : List Int, y_ = (x5_1 ++ [rd y333 (ji8)]) := ⟨_, rfl⟩
                      replace H : (stanzalaw09_few.l0 k1 true y337 l0 (l0.length : Int) (wrap64 (x10_1 + 1))) = some r := by first | (rw [hy337]; with_reducible exact H) | (have H2_ := (Option.bind_some _ _).symm.trans H; rw [hy337]; with_reducible exact H2_) | (have H2_ := (Option.bind_some _ _).symm.trans H; with_reducible exact H2_) | with_reducible exact H | (rw [hy337]; exact H) | exact H
                      have Ny337 := Aside0.mk hy337
                      clear hy337
                      have H' := Aside0.mk H
                      clear H
                      have p332 : 0 ≤ (x10_1 : Int) := of_decide_eq_true (by first | (with_reducible assumption) | assumption)
                      have q332 : x10_1 < (l0.length : Int) := of_decide_eq_true (by first | (with_reducible assumption) | assumption)
                      obtain ⟨ad332, e332, hx332_0⟩ := Kd.at_int HR0.out x10_1 p332 q332
                      cases e332
                      replace hx332_0 := (HB.out.cell (World.block_lt_of_cell? w _ hx332_0)).trans hx332_0
                      replace p332 := eq_true p332
                      replace q332 := eq_true q332
                      go_wp2_with (first | ((with_reducible refine gate_dst (N := 18) rfl ?_); refine Kd.R_lit (Kd.int .i32) _ 21 ?hg (N := 18) ?hd (xs := ([97, 98, 99, 100] : List Int)) (inner := [.int .i32 97, .int .i32 98, .int .i32 99, .int .i32 100]) (ok := fun _ => True) (okp := fun _ => True) ?hr ?hp (fun _ hk => hk) trivial (Below.refl _ _) (Nat.le_refl _) (by simp) ?_; (case hd => rfl); (case hg => rfl); (case hr => first | (go_simp; done) | (go_simp; rfl)); (case hp => exact (Reps.one (show Kd.M (Kd.int .i32) _ _ _ 97 [.int .i32 97] from rfl) (Reps.one (show Kd.M (Kd.int .i32) _ _ _ 98 [.int .i32 98] from rfl) (Reps.one (show Kd.M (Kd.int .i32) _ _ _ 99 [.int .i32 99] from rfl) (Reps.one (show Kd.M (Kd.int .i32) _ _ _ 100 [.int .i32 100] from rfl) (Reps.none _ _)))))); intro v334 w12 ho13 hb hg_ hnew_; clear hg_ hnew_; (first | rw [← Ny333.out] at ho13 | (simp only [Int.reduceToNat] at ho13; rw [← Ny333.out] at ho13)); have n0_ := Aside0.mk (Kd.R_elder' (by (with_reducible repeat (first | apply Kd.R_alloc | apply Kd.R_drewN | apply Kd.R_drew)); exact HO_5.out) (Kd.R_base ho13) hb); have n1_ := Aside0.mk (Kd.R_lower (Kd.R_new' ho13 (Kd.R_lt (by (with_reducible repeat (first | apply Kd.R_alloc | apply Kd.R_drewN | apply Kd.R_drew)); exact HO_5.out))) (below_size (by repeat (first | (with_reducible first | exact HB.out | apply below_alloc | apply pw_below_drewN | apply below_drew1) | exact HB.out)))); have n2_ := Aside0.mk (below_step (by repeat (first | (with_reducible first | exact HB.out | apply below_alloc | apply pw_below_drewN | apply below_drew1) | exact HB.out)) hb); clear HO_5; clear HB; have HO_5 := n0_; have HO335 := n1_; have HB := n2_; clear n0_ n1_ n2_; clear hb ho13; obtain ⟨Ao14, co14, eo14⟩ := Kd.R_slice HO335.out; subst eo14; have p336 : 0 ≤ ((ji8) : Int) := of_decide_eq_true (by first | (with_reducible assumption) | assumption); have q336 : (ji8) < (y333.length : Int) := of_decide_eq_true (by first | (with_reducible assumption) | assumption); obtain ⟨ad336, e336, hx336_0⟩ := Kd.at_int (Kd.R_reads' HO335.out).2.2 (ji8) p336 q336; cases e336; replace p336 := eq_true p336; replace q336 := eq_true q336) | ((with_reducible refine gate_builtin (b := .append) (xs := #[.tmp 24, .tmp 26]) rfl ?_); at_builtin; refine Kd.R_append (Kd.int .i32) (w0 := w) w.heap.size rfl (.tmp 24) (.tmp 26) 23 21 (.int .i32 0) 4 rfl Try.underlying23 info21 rfl (by decide) (by omega) u5 x5_1 (rd y333 (ji8)) [.int .i32 (rd y333 (ji8))] (fun k_ => some k_ ≠ (.slice (some ad336) y333.length co14 : Value).ownBlock) (fun _ => False) rfl rfl ?aP (fun _ hk => hk.elim) ?aF ?aO ?aB ?aS ?aL ?_; (case aP => exact rfl); (case aB => exact (by repeat (first | (with_reducible first | exact HB.out | apply below_alloc | apply pw_below_drewN | apply below_drew1) | exact HB.out))); (case aF => exact (fun k_ hk => Kd.fresh' (Kd.R_lt (by (with_reducible repeat (first | apply Kd.R_alloc | apply Kd.R_drewN | apply Kd.R_drew)); exact HO335.out)) k_ hk)); (case aO => exact (by (with_reducible repeat (first | apply Kd.R_alloc | apply Kd.R_drewN | apply Kd.R_drew)); exact Kd.R_mono HO_5.out (fun _ hk => hk.2))); (case aS => exact (below_size (by repeat (first | (with_reducible first | exact HB.out | apply below_alloc | apply pw_below_drewN | apply below_drew1) | exact HB.out)))); (case aL => have := LMc11.out; omega); intro v338 w15 ho hb hg hat; rw [← Ny337.out] at ho; have n0_ := Aside0.mk (Kd.R_after (ok := (fun _ => True)) (by (with_reducible repeat (first | apply Kd.R_alloc | apply Kd.R_drewN | apply Kd.R_drew)); exact HO335.out) hg hat); have n1_ := Aside0.mk (hb); have n2_ := Aside0.mk (ho); clear HO335; clear HB; clear HO_5; have HO335 := n0_; have HB := n1_; have HO339 := n2_; clear n0_ n1_ n2_; clear ho hb hg hat))
                      go_roundg k1
                      case measure => have := HK1.out; omega
                      case rel => exact ⟨(y337), (wrap64 (x10_1 + 1)), (by first | rfl | (simp; done) | (simp [*]; done)), H', ⟨by have := HK1.out; omega⟩, ⟨by (with_reducible repeat (first | apply Kd.R_alloc | apply Kd.R_drewN | apply Kd.R_drew)); exact Kd.R_mono HO339.out (fun _ hk => trivial)⟩, ⟨by repeat (first | (with_reducible first | exact HB.out | apply below_alloc | apply pw_below_drewN | apply below_drew1) | exact HB.out)⟩⟩
                    · rw [if_neg c11] at H
                      exact absurd H (by simp)
                  · rw [if_neg c10] at H
                    exact absurd H (by simp)
                · rw [if_neg c9] at H
                  exact absurd H (by simp)
              · replace c7 := Bool.eq_false_iff.mpr c7
                subst c7
                have H1 : (if x5_1.length < 35184372088832 then (stanzalaw09_few.l0 k1 false (x5_1 ++ [rd l0 x10_1]) l0 (l0.length : Int) (wrap64 (x10_1 + 1))) else (none)) = some r := by rw [if_neg (show ¬ (false = true) by decide)] at H; exact H
                clear H
                have H := H1
                clear H1
                by_cases c16 : x5_1.length < 35184372088832
                · rw [if_pos c16] at H
                  have LMc16 := Aside0.mk c16
                  clear c16
                  obtain ⟨y340, hy340⟩ : ∃ y_ : List Int, y_ = (x5_1 ++ [rd l0 x10_1]) := ⟨_, rfl⟩
                  replace H : (stanzalaw09_few.l0 k1 false y340 l0 (l0.length : Int) (wrap64 (x10_1 + 1))) = some r := by first | (rw [hy340]; with_reducible exact H) | (have H2_ := (Option.bind_some _ _).symm.trans H; rw [hy340]; with_reducible exact H2_) | (have H2_ := (Option.bind_some _ _).symm.trans H; with_reducible exact H2_) | with_reducible exact H | (rw [hy340]; exact H) | exact H
                  have Ny340 := Aside0.mk hy340
                  clear hy340
                  have H' := Aside0.mk H
                  clear H
                  have p332 : 0 ≤ (x10_1 : Int) := of_decide_eq_true (by first | (with_reducible assumption) | assumption)
                  have q332 : x10_1 < (l0.length : Int) := of_decide_eq_true (by first | (with_reducible assumption) | assumption)
                  obtain ⟨ad332, e332, hx332_0⟩ := Kd.at_int HR0.out x10_1 p332 q332
                  cases e332
                  replace hx332_0 := (HB.out.cell (World.block_lt_of_cell? w _ hx332_0)).trans hx332_0
                  replace p332 := eq_true p332
                  replace q332 := eq_true q332
                  go_wp2_with (first | ((with_reducible refine gate_builtin (b := .append) (xs := #[.tmp 24, .tmp 26]) rfl ?_); at_builtin; refine Kd.R_append (Kd.int .i32) (w0 := w) w.heap.size rfl (.tmp 24) (.tmp 26) 23 21 (.int .i32 0) 4 rfl Try.underlying23 info21 rfl (by decide) (by omega) u5 x5_1 (rd l0 x10_1) [.int .i32 (rd l0 x10_1)] (fun _ => True) (fun _ => False) rfl rfl ?aP (fun _ hk => hk.elim) ?aF ?aO ?aB ?aS ?aL ?_; (case aP => exact rfl); (case aB => exact (by repeat (first | (with_reducible first | exact HB.out | apply below_alloc | apply pw_below_drewN | apply below_drew1) | exact HB.out))); (case aF => exact (fun _ _ => trivial)); (case aO => exact (by (with_reducible repeat (first | apply Kd.R_alloc | apply Kd.R_drewN | apply Kd.R_drew)); exact HO_5.out)); (case aS => exact (below_size (by repeat (first | (with_reducible first | exact HB.out | apply below_alloc | apply pw_below_drewN | apply below_drew1) | exact HB.out)))); (case aL => have := LMc16.out; omega); intro v341 w17 ho hb hg hat; rw [← Ny340.out] at ho; have n0_ := Aside0.mk (hb); have n1_ := Aside0.mk (ho); clear HB; clear HO_5; have HB := n0_; have HO342 := n1_; clear n0_ n1_; clear ho hb hg hat))
                  go_roundg k1
                  case measure => have := HK1.out; omega
                  case rel => exact ⟨(y340), (wrap64 (x10_1 + 1)), (by first | rfl | (simp; done) | (simp [*]; done)), H', ⟨by have := HK1.out; omega⟩, ⟨by (with_reducible repeat (first | apply Kd.R_alloc | apply Kd.R_drewN | apply Kd.R_drew)); exact HO342.out⟩, ⟨by repeat (first | (with_reducible first | exact HB.out | apply below_alloc | apply pw_below_drewN | apply below_drew1) | exact HB.out)⟩⟩
                · rw [if_neg c16] at H
                  exact absurd H (by simp)
          · rw [if_neg c5] at H
            exact absurd H (by simp)
        · rw [if_neg c4] at H
          exact absurd H (by simp)
      · rw [if_neg c3] at H
        have c3b0 : decide (x10_1 < (l0.length : Int)) = false := decide_eq_false c3
        clear c3
        obtain rfl := Option.some.inj H
        go_wp2
        go_ret
        exact ⟨_, by first | rfl | (simp [errW_none, errW_some] <;> rfl) | (simp [*, errW_none, errW_some] <;> rfl), by (with_reducible repeat (first | apply Kd.R_alloc | apply Kd.R_drewN | apply Kd.R_drew)); exact HO_5.out, by repeat (first | (with_reducible first | exact HB.out | apply below_alloc | apply pw_below_drewN | apply below_drew1) | exact HB.out)⟩
end Go.Proofs.Ytoefjhdcipgacaa.PA
end
section
namespace Go.Proofs.Ytoefjhdcipgacaa.Hy
open Go.RowKit Go.Proofs.YtoefjhdcipgacaaW.PrintWords Go.Proofs.YtoefjhdcipgacaaW.PrintLast Go.Proofs.YtoefjhdcipgacaaW.PrintMore
open Go.Proofs.Ytoefjhdcipgacaa.PA
theorem copy_at {W : World} {base g cap start m c : Nat} {ok : Nat → Prop} {A : Option Addr} (xs ys : List Bool) (HO : Kd.R Kd.bool 4 W base ok (.slice (some ⟨g, 0, none⟩) xs.length cap) xs) (HR : Kd.C Kd.bool W A m ys) (hm : start + m ≤ xs.length) (ty : TypeId) :
    ∃ W', (Builtin.copy_ #[58, 58] ty #[.slice (some ⟨g, start, none⟩) (xs.length - start) (cap - start), .slice A m c]).run Try.prog W = .ok (goInt (m : Int)) W' ∧ Kd.R Kd.bool 4 W' base ok (.slice (some ⟨g, 0, none⟩) xs.length cap) (xs.take start ++ ys ++ xs.drop (start + m)) ∧ W.grownBy W' (some g) := by
  have hu : Try.prog.underlying 58 = some (.slice 4) := Try.underlying58
  have hinfo : (Try.prog.info? 4).map (·.size) = some 1 := by kernel_rfl
  have hR := Kd.reads_of_C (enc := Value.bool) (d := false) (h1 := fun _ => rfl) HR
  have hml : ys.length = m := hR.1
  have hown := Kd.own_of_R HO
  rcases Nat.eq_zero_or_pos m with h0 | hp
  · subst h0
    have hy : ys = [] := List.eq_nil_of_length_eq_zero hml
    subst hy
    refine ⟨W, run_copy_none W 58 58 ty 4 _ _ _ _ _ _ hu hinfo (by simp), ?_, World.grownBy.refl W _⟩
    rw [List.append_nil, Nat.add_zero, List.take_append_drop]
    exact HO
  · obtain ⟨ad, hA, hc⟩ := hR.2.2 (by omega)
    rcases hown.2 with ⟨_, hx0⟩ | ⟨g', cap', cur, hv, hb, hh, hnc, hcm, hcs, htake⟩
    · omega
    injection hv with e1 _ e2
    injection e1 with e1
    injection e1 with e1
    subst e1
    subst e2
    have hcs1 : cur.size = cap := by omega
    have hel : (encs Value.bool ys).length = m := by rw [encs_length, hml]
    have hsrc : ∀ j u, (encs Value.bool ys)[j]? = some u → W.cell? (ad.add j) = some u := by
      intro j u hu
      have hj : j < ys.length := by
        rcases Nat.lt_or_ge j ys.length with h | h
        · exact h
        · rw [List.getElem?_eq_none (by rw [encs_length]; exact h)] at hu
          cases hu
      rw [encs_get (d := false) _ j hj] at hu
      rw [hc j (by omega), ← hu]
    have hr := run_copy_cells (P := Try.prog) W 58 58 ty 4 g start (xs.length - start) (cap - start) ad m c (encs Value.bool ys) hu hinfo (by rw [hel]; exact (Nat.min_eq_left (by omega)).symm) hsrc
      (fun j hj => by rw [cell_of_row W g _ cur 4 (0, 0) hh]; simp; omega) (fun j _ => blk_frozen hh _) (by intro u hu; simp only [encs, List.mem_map] at hu; obtain ⟨q, _, rfl⟩ := hu; rfl)
    obtain ⟨cur', h3, h4, h5⟩ := setCells_row (encs Value.bool ys) start W cur hh (by rw [hel]; omega)
    obtain ⟨s1, s2, s3, s4⟩ := setCells_same g (encs Value.bool ys) start W
    refine ⟨_, by rw [hA, hr, hel], Kd.R_of_own ?_ HO.1, ⟨s1, s2, s3, by rw [s4]; exact Nat.le_refl _, fun k _ hk => setCells_far _ _ k (fun he => hk (by rw [he]))⟩⟩
    have hln : (xs.take start ++ ys ++ xs.drop (start + m)).length = xs.length := by
      simp only [List.length_append, List.length_take, List.length_drop]
      omega
    rw [hln]
    refine ⟨by rw [encs_length, hln, Nat.mul_one], .inr ⟨g, cap, cur', rfl, hb, h3, hnc, hcm, by rw [h4, hcs], ?_⟩⟩
    have htk : cur.toList.take xs.length = encs Value.bool xs := by rw [← htake, Nat.mul_one]
    rw [h5, hel, encs_append, encs_append, Nat.mul_one]
    have d1 : encs Value.bool (xs.take start) = cur.toList.take start := by
      rw [show encs Value.bool (xs.take start) = (encs Value.bool xs).take start by simp [encs, List.map_take], ← htk, List.take_take, Nat.min_eq_left (by omega)]
    have d2 : encs Value.bool (xs.drop (start + m)) = (cur.toList.drop (start + m)).take (xs.length - (start + m)) := by
      rw [show encs Value.bool (xs.drop (start + m)) = (encs Value.bool xs).drop (start + m) by simp [encs, List.map_drop], ← htk, List.drop_take]
    have hcl : cur.toList.length = cap := by rw [Array.length_toList]; exact hcs1
    rw [d1, d2, List.take_append, List.length_append, List.length_take, hel, hcl, List.take_of_length_le (by rw [List.length_append, List.length_take, hel]; omega)]
    rw [Nat.min_eq_left (show start ≤ cap by omega)]
end Go.Proofs.Ytoefjhdcipgacaa.Hy
end
section
namespace Go.Proofs.Ytoefjhdcipgacaa.PA
open Go.RowKit Go.Proofs.YtoefjhdcipgacaaW.PrintWords Go.Proofs.YtoefjhdcipgacaaW.PrintLast Go.Proofs.YtoefjhdcipgacaaW.PrintMore
attribute [local go_sem] max2_int min2_int max_two min_two max_three min_three max_four min_four   -- for this text's walks alone
set_option linter.unusedVariables false
set_option linter.unusedSimpArgs false
def stanzaref07_SameBools.l0 : Nat → List Bool → List Bool → Int → Option (Bool)
  | 0, _, _, _ => none
  | k + 1, x0, x1, x5 => if x5 < (x0.length : Int) then (if 0 ≤ x5 then (if x5 < (x1.length : Int) then (if ((rdOf false x0 x5) != (rdOf false x1 x5)) = true then (some false) else (stanzaref07_SameBools.l0 k x0 x1 (wrap64 (x5 + 1)))) else (none)) else (none)) else (some true)
def stanzaref07_SameBools.f (k : Nat) (l0 : List Bool) (l1 : List Bool) : Option (Bool) := if (l0.length : Int) = (l1.length : Int) then (stanzaref07_SameBools.l0 k l0 l1 0) else (some false)
set_option maxHeartbeats 8000000 in
set_option maxRecDepth 100000 in
theorem stanzaref07_SameBools.calls (k : Nat) (A0 : Option Addr) (c0 : Nat) (l0 : List Bool) (A1 : Option Addr) (c1 : Nat) (l1 : List Bool) (r : Bool) (w : World) (hr0 : Kd.C Kd.bool w A0 l0.length l0) (hc0 : l0.length ≤ c0) (hr1 : Kd.C Kd.bool w A1 l1.length l1) (hc1 : l1.length ≤ c1) (h : stanzaref07_SameBools.f k l0 l1 = some r) :
    Calls Try.prog 29 #[.slice A0 l0.length c0, .slice A1 l1.length c1] w fun e w' => e = .returned (.bool r) ∧ Drawn0 w w' := by
  have HR0 := Aside0.mk hr0
  have HC0 := Aside0.mk hc0
  clear hr0 hc0
  have HR1 := Aside0.mk hr1
  have HC1 := Aside0.mk hc1
  clear hr1 hc1
  have H : (if (l0.length : Int) = (l1.length : Int) then (stanzaref07_SameBools.l0 k l0 l1 0) else (some false)) = some r := h
  clear h
  by_cases c3 : (l0.length : Int) = (l1.length : Int)
  · rw [if_pos c3] at H
    have c3b0 : ((l0.length : Int) == (l1.length : Int)) = true := beq_iff_eq.mpr c3
    have c3b1 : ((l0.length : Int) != (l1.length : Int)) = false := bne_eq_false_iff_eq.mpr c3
    have c3b2 : (l0.length == l1.length) = true := by first | simpa using c3 | (simp at c3 ⊢; omega)
    clear c3
    have H' := Aside0.mk H
    clear H
    go_enter Try.func29, Try.ntmps29
    go_wp2
    repeat (go_quiet (fail); try go_wp2)
    go_loopg [5] k (fun kq v5 w' => ∃ (x5_1 : Int), v5 = .int .i64 x5_1 ∧ Aside0 (stanzaref07_SameBools.l0 kq l0 l1 x5_1 = some r) ∧ Aside0 (kq ≤ k) ∧ Drawn0 w w')
    case atStart => exact ⟨(0), (by first | rfl | (simp; done) | (simp [*]; done)), H', ⟨Nat.le_refl _⟩, by repeat (first | exact Drawn0.refl _ | apply Drawn0.step)⟩
    case round =>
      clear H'
      try clear c1
      try clear c2
      try clear p2
      try clear c3
      try clear c3b0
      try clear c3b1
      try clear c3b2
      obtain ⟨x5_1, rfl, HA, HK1, ⟨m1, rfl⟩⟩ := hrel
      cases gk with
      | zero => exact absurd HA.out (by simp [stanzaref07_SameBools.l0])
      | succ k1 =>
        have H := HA.out
        clear HA
        simp only [stanzaref07_SameBools.l0] at H
        by_cases c4 : x5_1 < (l0.length : Int)
        · rw [if_pos c4] at H
          have c4b0 : decide (x5_1 < (l0.length : Int)) = true := decide_eq_true c4
          clear c4
          by_cases c5 : 0 ≤ x5_1
          · rw [if_pos c5] at H
            have c5b0 : decide (0 ≤ x5_1) = true := decide_eq_true c5
            clear c5
            by_cases c6 : x5_1 < (l1.length : Int)
            · rw [if_pos c6] at H
              have c6b0 : decide (x5_1 < (l1.length : Int)) = true := decide_eq_true c6
              clear c6
              by_cases c7 : ((rdOf false l0 x5_1) != (rdOf false l1 x5_1)) = true
              · rw [if_pos c7] at H
                have c7b0 : ((rdOf false l0 x5_1) != (rdOf false l1 x5_1)) = true := c7
                (try (have c7b1 : decide ((rdOf false l0 x5_1) = (rdOf false l1 x5_1)) = false := by simpa using c7))
                (try (have c7b2 : ((rdOf false l0 x5_1) == (rdOf false l1 x5_1)) = false := by simpa using c7))
                (try (have c7b3 : ¬ ((rdOf false l0 x5_1) = (rdOf false l1 x5_1)) := by simpa using c7))
                clear c7
                obtain rfl := Option.some.inj H
                have p297 : 0 ≤ (x5_1 : Int) := of_decide_eq_true (by first | (with_reducible assumption) | assumption)
                have q297 : x5_1 < (l0.length : Int) := of_decide_eq_true (by first | (with_reducible assumption) | assumption)
                obtain ⟨ad297, e297, hx297_0⟩ := Kd.at_bool HR0.out x5_1 p297 q297
                cases e297
                replace p297 := eq_true p297
                replace q297 := eq_true q297
                have p298 : 0 ≤ (x5_1 : Int) := of_decide_eq_true (by first | (with_reducible assumption) | assumption)
                have q298 : x5_1 < (l1.length : Int) := of_decide_eq_true (by first | (with_reducible assumption) | assumption)
                obtain ⟨ad298, e298, hx298_0⟩ := Kd.at_bool HR1.out x5_1 p298 q298
                cases e298
                replace p298 := eq_true p298
                replace q298 := eq_true q298
                go_wp2
                repeat (go_quiet (fail); try go_wp2)
                go_ret
                exact ⟨by first | rfl | (simp; done) | (simp [*]; done), by repeat (first | exact Drawn0.refl _ | apply Drawn0.step)⟩
              · rw [if_neg c7] at H
                have c7b0 : ((rdOf false l0 x5_1) != (rdOf false l1 x5_1)) = false := by simpa using c7
                (try (have c7b1 : decide ((rdOf false l0 x5_1) = (rdOf false l1 x5_1)) = true := by simpa using c7))
                (try (have c7b2 : ((rdOf false l0 x5_1) == (rdOf false l1 x5_1)) = true := by simpa using c7))
                clear c7
                have H' := Aside0.mk H
                clear H
                have p297 : 0 ≤ (x5_1 : Int) := of_decide_eq_true (by first | (with_reducible assumption) | assumption)
                have q297 : x5_1 < (l0.length : Int) := of_decide_eq_true (by first | (with_reducible assumption) | assumption)
                obtain ⟨ad297, e297, hx297_0⟩ := Kd.at_bool HR0.out x5_1 p297 q297
                cases e297
                replace p297 := eq_true p297
                replace q297 := eq_true q297
                have p298 : 0 ≤ (x5_1 : Int) := of_decide_eq_true (by first | (with_reducible assumption) | assumption)
                have q298 : x5_1 < (l1.length : Int) := of_decide_eq_true (by first | (with_reducible assumption) | assumption)
                obtain ⟨ad298, e298, hx298_0⟩ := Kd.at_bool HR1.out x5_1 p298 q298
                cases e298
                replace p298 := eq_true p298
                replace q298 := eq_true q298
                go_wp2
                repeat (go_quiet (fail); try go_wp2)
                go_roundg k1
                case measure => have := HK1.out; omega
                case rel => exact ⟨(wrap64 (x5_1 + 1)), (by first | rfl | (simp; done) | (simp [*]; done)), H', ⟨by have := HK1.out; omega⟩, by repeat (first | exact Drawn0.refl _ | apply Drawn0.step)⟩
            · rw [if_neg c6] at H
              exact absurd H (by simp)
          · rw [if_neg c5] at H
            exact absurd H (by simp)
        · rw [if_neg c4] at H
          have c4b0 : decide (x5_1 < (l0.length : Int)) = false := decide_eq_false c4
          clear c4
          obtain rfl := Option.some.inj H
          go_wp2
          repeat (go_quiet (fail); try go_wp2)
          go_ret
          exact ⟨by first | rfl | (simp; done) | (simp [*]; done), by repeat (first | exact Drawn0.refl _ | apply Drawn0.step)⟩
  · rw [if_neg c3] at H
    have c3b0 : ((l0.length : Int) == (l1.length : Int)) = false := beq_eq_false_iff_ne.mpr c3
    have c3b1 : ((l0.length : Int) != (l1.length : Int)) = true := bne_iff_ne.mpr c3
    have c3b2 : (l0.length == l1.length) = false := by first | simpa using c3 | (simp at c3 ⊢; omega)
    obtain rfl := Option.some.inj H
    go_enter Try.func29, Try.ntmps29
    go_wp2
    repeat (go_quiet (fail); try go_wp2)
    go_ret
    exact ⟨by first | rfl | (simp; done) | (simp [*]; done), by repeat (first | exact Drawn0.refl _ | apply Drawn0.step)⟩
end Go.Proofs.Ytoefjhdcipgacaa.PA
end
