/-
  stanzalaw08.small: the patterns it makes, as a plain function, and that the program makes just these.
-/
import Derived.Test.YtoefjhdcipgacaaPAx0
import Derived.Deep.RegionLaw
import Derived.BigRegion
import Derived.StillTailTactics
import Derived.Test.YtoefjhdcipgacaaTrieMem
namespace Go.Proofs.Ytoefjhdcipgacaa.Sm
open Go.RowKit Go.Proofs.YtoefjhdcipgacaaW.PrintWords Go.Proofs.YtoefjhdcipgacaaW.PrintLast Go.Proofs.YtoefjhdcipgacaaW.PrintMore
open Go.Proofs.Ytoefjhdcipgacaa.PA
open Go.Proofs.Ytoefjhdcipgacaa.Tr (store1 size27)
attribute [local go_sem] max2_int min2_int max_two min_two

def letterOf (r : Int) : Int := ([97, 98, 99, 46] : List Int).getD (r % 4).toNat 0
def lettersTo (fit : Bool) (ls : List Int) (k : Nat) : List Int := (ls.take k).map fun r => if fit then letterOf r else r
def smallOne (fit : Bool) (p : S39) : S39 := ⟨lettersTo fit p.f0 8, p.f1.take 12⟩
def smallTo (fit : Bool) (l : List S39) (k : Nat) : List S39 := (l.take k).map (smallOne fit)
def small (fit : Bool) (l : List S39) : List S39 := smallTo fit l 40
theorem smallTo_succ (fit : Bool) (l : List S39) (k : Nat) (h : k < l.length) : smallTo fit l (k + 1) = smallTo fit l k ++ [smallOne fit (rd_T39 l (k : Int))] := by
  unfold smallTo
  rw [List.take_succ_eq_append_getElem h, List.map_append]
  simp [rd_T39, List.getD_eq_getElem?_getD, List.getElem?_eq_getElem h]
theorem lettersTo_succ (fit : Bool) (ls : List Int) (k : Nat) (h : k < ls.length) : lettersTo fit ls (k + 1) = lettersTo fit ls k ++ [if fit then letterOf (rd ls (k : Int)) else rd ls (k : Int)] := by
  unfold lettersTo
  rw [List.take_succ_eq_append_getElem h, List.map_append]
  simp [rd, List.getD_eq_getElem?_getD, List.getElem?_eq_getElem h]

theorem smallTo_len (fit : Bool) (l : List S39) (k : Nat) : (smallTo fit l k).length ≤ k := by simp [smallTo]; omega
theorem lettersTo_all (fit : Bool) (ls : List Int) (j : Nat) (h : ls.length ≤ j) (h8 : j ≤ 8) : lettersTo fit ls j = lettersTo fit ls 8 := by
  unfold lettersTo; rw [List.take_of_length_le h, List.take_of_length_le (by omega)]
theorem rows_ok {w wo : World} {v : Value} {xs : List S39} (h : Kd.R k39 39 wo w.heap.size (fun _ => True) v xs) : ∀ b, wo.heap.size ≤ b → True ∧ some b ≠ v.ownBlock := fun b hb => ⟨trivial, fun e => by have := Kd.R_lt h b e.symm; omega⟩
theorem rows_mk {w wo W : World} {p : S39} {v0 v1 : Value} {L : List Int} (hw : w.heap.size ≤ wo.heap.size) (hL : p.f1 = L) (h0 : Kd.R (Kd.int .i32) 21 W wo.heap.size (fun _ => True) v0 p.f0) (h1' : Kd.R (Kd.int .u8) 5 W wo.heap.size (fun _ => True) v1 L) :
    k39.M W w.heap.size (fun b => wo.heap.size ≤ b) p [v0, v1] :=
  have h1 : Kd.R (Kd.int .u8) 5 W wo.heap.size (fun _ => True) v1 p.f1 := hL ▸ h1'
  k39_mkM W w.heap.size _ p (Kd.R_mono (Kd.R_lower (Kd.R_bound h0) hw) (fun _ hk => hk.2.1)) (Kd.R_mono (Kd.R_lower (Kd.R_bound h1) hw) (fun _ hk => hk.2.1))
theorem cut_reads {W : World} {A : Option Addr} {ys : List Int} (h : Kd.C (Kd.int .u8) W A ys.length ys) : (ys.length ≤ 12 → Kd.C (Kd.int .u8) W A ys.length (ys.take 12)) ∧ (12 ≤ ys.length → Kd.C (Kd.int .u8) W A 12 (ys.take 12)) := by
  refine ⟨fun hl => by rw [List.take_of_length_le hl]; exact h, fun hl => ?_⟩
  have := Kd.C_take h hl
  rwa [List.length_take, Nat.min_eq_left hl] at this
theorem size23 : (Try.prog.info? 23).map (·.size) = some 1 := by kernel_rfl

set_option maxHeartbeats 4000000 in
set_option maxRecDepth 100000 in
theorem small_calls (fit : Bool) (l : List S39) (A : Option Addr) (c : Nat) (w : World) (hr : Kd.C k39 w A l.length l) (hc : l.length ≤ c) :
    Calls Try.prog 17 #[.slice A l.length c, .bool fit] w fun e w' => ∃ v, e = .returned v ∧ Kd.R k39 39 w' w.heap.size (fun _ => True) v (small fit l) ∧ Below w.heap.size w w' := by
  have HR := Aside0.mk hr
  have hmax : l.length ≤ 9223372036854775807 := Kd.C_max hr
  have HC := Aside0.mk hc
  clear hr hc
  go_enter Try.func17, Try.ntmps17
  go_wp2_with fail
  go_loopg [5, 13] 41 (fun g v5 v13 w' => ∃ k : Nat, v13 = .int .i64 k ∧ Aside0 (g + k = 41 ∧ k ≤ l.length ∧ k ≤ 40) ∧ Aside0 (Kd.R k39 39 w' w.heap.size (fun _ => True) v5 (smallTo fit l k)) ∧ Aside0 (Below w.heap.size w w'))
  case atStart => exact ⟨0, rfl, ⟨rfl, Nat.zero_le _, by decide⟩, ⟨Kd.R_nil _ _ _ _ _⟩, ⟨Below.refl _ _⟩⟩
  case round =>
    obtain ⟨k, rfl, HG, HO, HB⟩ := hrel
    by_cases hk : k < l.length
    · have p1 : (0 : Int) ≤ (k : Int) := by omega
      have q1 : (k : Int) < (l.length : Int) := by omega
      obtain ⟨ad, A0, c0, A1, c1, e1, hx0, hx1, hl0, hi0, hl1, hi1⟩ := at_T39 HR.out (k : Int) p1 q1
      subst e1
      replace hx0 := (HB.out.cell (World.block_lt_of_cell? w _ hx0)).trans hx0
      replace hx1 := (HB.out.cell (World.block_lt_of_cell? w _ hx1)).trans hx1
      simp only [Int.toNat_natCast] at hx0 hx1
      obtain ⟨p, hp⟩ : ∃ p, rd_T39 l (k : Int) = p := ⟨_, rfl⟩
      rw [hp] at hx0 hx1 hl0 hi0 hl1 hi1
      have HP := Aside0.mk hp
      clear hp
      have HR0 := Aside0.mk hi0
      have HC0 := Aside0.mk hl0
      have HR1 := Aside0.mk hi1
      have HC1 := Aside0.mk hl1
      clear hi0 hl0 hi1 hl1
      by_cases h40 : 40 ≤ k
      · have hb40 : decide ((40 : Int) ≤ (k : Int)) = true := by simp; omega
        have hfin : smallTo fit l k = small fit l := by
          have : k = 40 := by have := HG.out; omega
          rw [this]; rfl
        have HF := Aside0.mk hfin
        clear hfin
        go_wp2_with fail
        go_ret
        exact ⟨_, rfl, HF.out ▸ Kd.R_alloc HO.out _, below_alloc HB.out _⟩
      · have hb40 : decide ((40 : Int) ≤ (k : Int)) = false := by simp; omega
        go_wp2_with fail
        obtain ⟨wo, rfl⟩ : ∃ wo : World, wo = wr := ⟨_, rfl⟩
        go_loopg [24] 9 (fun g v24 w' => ∃ (j : Nat) (v0 : Value), v24 = .int .i64 j ∧ Aside0 (g + j = 9 ∧ j ≤ p.f0.length ∧ j ≤ 8) ∧ Aside0 (Kd.R (Kd.int .i32) 21 w' wo.heap.size (fun _ => True) v0 (lettersTo fit p.f0 j)) ∧ Aside0 (w'.heap[wo.heap.size]? = some (.cells #[.slice A0 p.f0.length c0, .slice A1 p.f1.length c1] 39 (0, 0))) ∧ Aside0 (w'.heap[wo.heap.size + 1]? = some (.cells #[v0, .slice none 0 0] 39 (0, 0))) ∧ Aside0 (Below wo.heap.size wo w'))
        case atStart =>
          refine ⟨0, .slice none 0 0, rfl, ⟨rfl, Nat.zero_le _, by decide⟩, ⟨Kd.R_nil _ _ _ _ _⟩, ⟨blk_alloc (blk_new _ _) _⟩, ⟨?_⟩, ⟨below_alloc (below_alloc (Below.refl _ _) _) _⟩⟩
          have := blk_new (wo.alloc (.cells #[.slice A0 p.f0.length c0, .slice A1 p.f1.length c1] 39)) (.cells #[.slice none 0 0, .slice none 0 0] 39)
          simpa using this
        case round =>
          obtain ⟨j, v0, rfl, HG2, HL, HPB, HQB, HB2⟩ := hrel
          by_cases hj : j < p.f0.length
          · have p2 : (0 : Int) ≤ (j : Int) := by omega
            have q2 : (j : Int) < (p.f0.length : Int) := by omega
            obtain ⟨ad2, e2, hx2⟩ := Kd.at_int HR0.out (j : Int) p2 q2
            subst e2
            simp only [Int.toNat_natCast] at hx2
            have hx3 : wr.cell? (ad2.add j) = some (.int .i32 (rd p.f0 (j : Int))) := (HB2.out.cell (World.block_lt_of_cell? wo _ ((HB.out.cell (World.block_lt_of_cell? w _ hx2)).trans hx2))).trans ((HB.out.cell (World.block_lt_of_cell? w _ hx2)).trans hx2)
            obtain ⟨r, hr⟩ : ∃ r, rd p.f0 (j : Int) = r := ⟨_, rfl⟩
            rw [hr] at hx3
            have HRr := Aside0.mk hr
            clear hr hx2
            by_cases h8 : 8 ≤ j
            · have hb8 : decide ((8 : Int) ≤ (j : Int)) = true := by simp; omega
              have hje : lettersTo fit p.f0 j = lettersTo fit p.f0 8 := by
                have : j = 8 := by have := HG2.out; omega
                rw [this]
              rw [hje] at HL
              clear hje
              obtain ⟨Av, cv, hv0⟩ := Kd.R_slice HL.out
              subst hv0
              have hq1 : wr.cell? ⟨wo.heap.size + 1, 1, none⟩ = some (.slice none 0 0) := by rw [blk_cell HQB.out 1]; rfl
              have hp1 : wr.cell? ⟨wo.heap.size, 1, none⟩ = some (.slice A1 p.f1.length c1) := by rw [blk_cell HPB.out 1]; rfl
              have hcc1 : p.f1.length ≤ c1 := HC1.out
              obtain ⟨L5, hL5⟩ : ∃ L5, p.f1.take 12 = L5 := ⟨_, rfl⟩
              have hl5 : L5.length ≤ 12 := by rw [← hL5]; exact List.length_take_le _ _
              have hsl := smallTo_len fit l k
              have hk40 : k ≤ 40 := HG.out.2.2
              have HL5' := Aside0.mk hL5
              have HL5 := Aside0.mk hL5.symm
              clear hL5
              have HQBd : Aside0 (wr.drew.heap[wo.heap.size + 1]? = some (.cells #[.slice Av (lettersTo fit p.f0 8).length cv, .slice none 0 0] 39 (0, 0))) := ⟨HQB.out⟩
              have HLd := Aside0.mk (Kd.R_drew HL.out)
              have HBd := Aside0.mk (below_drew HB2.out)
              have hcu := cut_reads (Kd.C_below HR1.out (below_then HB.out (below_size HB.out) HBd.out))
              have HCU := Aside0.mk hcu
              clear hcu
              go_wp2_with fail
              by_cases h12 : p.f1.length ≤ 12
              · have hm12 : ((12 : Int) < (p.f1.length : Int)) = False := eq_false (by omega)
                skip
                go_still_tail 9, (by kernel_rfl)
                change wpList _ _ _ _ _ wr.drew
                have HRC := Aside0.mk (HCU.out.1 h12)
                rw [HL5'.out] at HRC
                go_wp2_with (first | ((with_reducible refine gate_builtin (b := .append) (xs := #[.tmp 46, .tmp 53]) rfl ?_); at_builtin; (refine Kd.R_append_rows (Kd.int .u8) (w0 := wo) wo.heap.size rfl (.tmp 46) (.tmp 53) 27 5 (.int .u8 0) 1 rfl Try.underlying27 info5 rfl (by decide) (by omega) (.slice none 0 0) ([] : List Int) L5 _ _ _ (fun _ => True) (fun _ => False) rfl rfl (Kd.R_nil _ _ _ _ _) HRC.out (fun _ _ h => h) (fun _ h => h.elim) (fun _ _ => trivial) HBd.out (below_size HBd.out) (by show (0 + _) * 1 ≤ _; omega) ?_; intro v1 w1 ho1 hb1 hg1 hat1; clear hat1; rw [List.nil_append] at ho1; have HL1 := Aside0.mk (Kd.R_grown HLd.out hg1 (fun _ _ => by simp [Value.ownBlock])); have HQB1 := Aside0.mk (blk_grown HQBd.out hg1 (by simp [Value.ownBlock])); obtain ⟨A5, c5, hv1⟩ := Kd.R_slice ho1; rw [hv1] at ho1 ⊢; have HO1 := Aside0.mk ho1; have HB1 := Aside0.mk hb1; clear ho1 hb1 hg1 hv1)) | (refine gate_ (.store 27 (.tmp 55) (.tmp 54)) rfl ?_; (refine store1 (u := .slice A5 L5.length c5) rfl rfl 27 (.tmp 55) (.tmp 54) rfl rfl rfl rfl size27 rfl HQB1.out (by simp) ?_; intro w2 hw2; have HL2 := Aside0.mk (Kd.R_set HL1.out HQB1.out (by decide) 1 (.slice A5 L5.length c5)); have HO2 := Aside0.mk (Kd.R_set HO1.out HQB1.out (by decide) 1 (.slice A5 L5.length c5)); have HQB2 := Aside0.mk (blk_set HQB1.out 1 (.slice A5 L5.length c5)); have HB2' := Aside0.mk (below_set (j := 1) (v := .slice A5 L5.length c5) HB1.out (Nat.le_succ _)); rw [← hw2] at HL2 HO2 HQB2 HB2'; have q0 : w2.cell? ⟨wo.heap.size + 1, 0, none⟩ = some (.slice Av (lettersTo fit p.f0 8).length cv) := (by rw [blk_cell HQB2.out 0]; rfl); have q1 : w2.cell? ⟨wo.heap.size + 1, 1, none⟩ = some (.slice A5 L5.length c5) := (by rw [blk_cell HQB2.out 1]; rfl); have HO6 := Aside0.mk (Kd.R_below HO.out HB2'.out); have HB6 := Aside0.mk (below_then HB.out (below_size HB.out) HB2'.out); have HM := Aside0.mk (rows_mk (p := smallOne fit p) (below_size HB.out) HL5'.out HL2.out HO2.out); clear hw2)) | ((with_reducible refine gate_builtin (b := .append) (xs := #[.tmp 56, .tmp 58]) rfl ?_); at_builtin; (refine Kd.R_append k39 (w0 := w) w.heap.size rfl (.tmp 56) (.tmp 58) 22 39 (.agg #[.slice none 0 0, .slice none 0 0]) 48 rfl Try.underlying22 info39 rfl (by decide) (by omega) u5 (smallTo fit l k) (smallOne fit p) [.slice Av (lettersTo fit p.f0 8).length cv, .slice A5 L5.length c5] (fun _ => True) (fun b_ => wo.heap.size ≤ b_) rfl rfl HM.out (rows_ok HO.out) (fun _ _ => trivial) HO6.out HB6.out (below_size HB6.out) (by omega) ?_; intro v3 w3 ho3 hb3 hg3 hat3; clear hat3 hg3; have HO3 := Aside0.mk ho3; have HB3 := Aside0.mk hb3; clear ho3 hb3)))
                go_roundg (41 - (k + 1))
                case measure => have := HG.out; omega
                case rel => exact ⟨k + 1, by go_num, ⟨by have := HG.out; omega⟩, ⟨by rw [smallTo_succ _ _ _ hk, HP.out]; exact HO3.out⟩, HB3⟩
              · have hm12 : ((12 : Int) < (p.f1.length : Int)) = True := eq_true (by omega)
                have hc12 : (12 : Int) ≤ (c1 : Int) := by omega
                have hc13 : 12 ≤ c1 := by omega
                go_still_tail 9, (by kernel_rfl)
                change wpList _ _ _ _ _ wr.drew
                have HRC := Aside0.mk (HCU.out.2 (by omega))
                rw [HL5'.out] at HRC
                go_wp2_with (first | ((with_reducible refine gate_builtin (b := .append) (xs := #[.tmp 46, .tmp 53]) rfl ?_); at_builtin; (refine Kd.R_append_rows (Kd.int .u8) (w0 := wo) wo.heap.size rfl (.tmp 46) (.tmp 53) 27 5 (.int .u8 0) 1 rfl Try.underlying27 info5 rfl (by decide) (by omega) (.slice none 0 0) ([] : List Int) L5 _ _ _ (fun _ => True) (fun _ => False) rfl rfl (Kd.R_nil _ _ _ _ _) HRC.out (fun _ _ h => h) (fun _ h => h.elim) (fun _ _ => trivial) HBd.out (below_size HBd.out) (by show (0 + _) * 1 ≤ _; omega) ?_; intro v1 w1 ho1 hb1 hg1 hat1; clear hat1; rw [List.nil_append] at ho1; have HL1 := Aside0.mk (Kd.R_grown HLd.out hg1 (fun _ _ => by simp [Value.ownBlock])); have HQB1 := Aside0.mk (blk_grown HQBd.out hg1 (by simp [Value.ownBlock])); obtain ⟨A5, c5, hv1⟩ := Kd.R_slice ho1; rw [hv1] at ho1 ⊢; have HO1 := Aside0.mk ho1; have HB1 := Aside0.mk hb1; clear ho1 hb1 hg1 hv1)) | (refine gate_ (.store 27 (.tmp 55) (.tmp 54)) rfl ?_; (refine store1 (u := .slice A5 L5.length c5) rfl rfl 27 (.tmp 55) (.tmp 54) rfl rfl rfl rfl size27 rfl HQB1.out (by simp) ?_; intro w2 hw2; have HL2 := Aside0.mk (Kd.R_set HL1.out HQB1.out (by decide) 1 (.slice A5 L5.length c5)); have HO2 := Aside0.mk (Kd.R_set HO1.out HQB1.out (by decide) 1 (.slice A5 L5.length c5)); have HQB2 := Aside0.mk (blk_set HQB1.out 1 (.slice A5 L5.length c5)); have HB2' := Aside0.mk (below_set (j := 1) (v := .slice A5 L5.length c5) HB1.out (Nat.le_succ _)); rw [← hw2] at HL2 HO2 HQB2 HB2'; have q0 : w2.cell? ⟨wo.heap.size + 1, 0, none⟩ = some (.slice Av (lettersTo fit p.f0 8).length cv) := (by rw [blk_cell HQB2.out 0]; rfl); have q1 : w2.cell? ⟨wo.heap.size + 1, 1, none⟩ = some (.slice A5 L5.length c5) := (by rw [blk_cell HQB2.out 1]; rfl); have HO6 := Aside0.mk (Kd.R_below HO.out HB2'.out); have HB6 := Aside0.mk (below_then HB.out (below_size HB.out) HB2'.out); have HM := Aside0.mk (rows_mk (p := smallOne fit p) (below_size HB.out) HL5'.out HL2.out HO2.out); clear hw2)) | ((with_reducible refine gate_builtin (b := .append) (xs := #[.tmp 56, .tmp 58]) rfl ?_); at_builtin; (refine Kd.R_append k39 (w0 := w) w.heap.size rfl (.tmp 56) (.tmp 58) 22 39 (.agg #[.slice none 0 0, .slice none 0 0]) 48 rfl Try.underlying22 info39 rfl (by decide) (by omega) u5 (smallTo fit l k) (smallOne fit p) [.slice Av (lettersTo fit p.f0 8).length cv, .slice A5 L5.length c5] (fun _ => True) (fun b_ => wo.heap.size ≤ b_) rfl rfl HM.out (rows_ok HO.out) (fun _ _ => trivial) HO6.out HB6.out (below_size HB6.out) (by omega) ?_; intro v3 w3 ho3 hb3 hg3 hat3; clear hat3 hg3; have HO3 := Aside0.mk ho3; have HB3 := Aside0.mk hb3; clear ho3 hb3)))
                go_roundg (41 - (k + 1))
                case measure => have := HG.out; omega
                case rel => exact ⟨k + 1, by go_num, ⟨by have := HG.out; omega⟩, ⟨by rw [smallTo_succ _ _ _ hk, HP.out]; exact HO3.out⟩, HB3⟩
            · have hb8 : decide ((8 : Int) ≤ (j : Int)) = false := by simp; omega
              have hcq : wr.cell? ⟨wo.heap.size + 1, 0, none⟩ = some v0 := by rw [blk_cell HQB.out 0]; rfl
              obtain ⟨Av, cv, hv0⟩ := Kd.R_slice HL.out
              subst hv0
              have HLL : Aside0 ((lettersTo fit p.f0 j).length ≤ 8) := ⟨by simp only [lettersTo, List.length_map, List.length_take]; have := HG2.out; omega⟩
              cases fit with
              | false =>
                obtain ⟨L1, hL1⟩ : ∃ L1, lettersTo false p.f0 j ++ [r] = L1 := ⟨_, rfl⟩
                have HL1 := Aside0.mk hL1
                clear hL1
                have HLw := HL
                have HBw := HB2
                have HPBw := HPB
                have HQBw := HQB
                go_wp2_with (first | ((with_reducible refine gate_builtin (b := .append) (xs := #[.tmp 39, .tmp 41]) rfl ?_); at_builtin; (refine Kd.R_append (Kd.int .i32) (w0 := wo) wo.heap.size rfl (.tmp 39) (.tmp 41) 23 21 (.int .i32 0) 4 rfl Try.underlying23 info21 rfl (by decide) (by omega) (.slice Av (lettersTo false p.f0 j).length cv) (lettersTo false p.f0 j) _ [.int .i32 r] (fun _ => True) (fun _ => False) rfl rfl rfl (fun _ hk => hk.elim) (fun _ _ => trivial) HLw.out HBw.out (below_size HBw.out) (by have := HLL.out; omega) ?_; intro v1 w1 ho1 hb1 hg1 hat1; clear hat1; rw [HL1.out] at ho1; have HPB1 := Aside0.mk (blk_grown HPBw.out hg1 (Kd.R_ne HLw.out HPBw.out (by decide))); have HQB1 := Aside0.mk (blk_grown HQBw.out hg1 (Kd.R_ne HLw.out HQBw.out (by decide))); obtain ⟨A1', c1', hv1⟩ := Kd.R_slice ho1; have HO1 := Aside0.mk ho1; have HB1 := Aside0.mk hb1; have HV1 := Aside0.mk hv1; rw [hv1]; clear ho1 hb1 hg1 hv1)) | (refine gate_ (.store 23 (.tmp 43) (.tmp 42)) rfl ?_; (refine store1 (u := .slice A1' L1.length c1') rfl rfl 23 (.tmp 43) (.tmp 42) rfl rfl rfl rfl size23 rfl HQB1.out (by simp) ?_; intro w2 hw2; have HO2 := Aside0.mk (Kd.R_set HO1.out HQB1.out (by decide) 0 v1); have HPB2 := Aside0.mk (blk_far (p := ⟨wo.heap.size + 1, 0, none⟩) HPB1.out (by simp) v1); have HQB2 := Aside0.mk (blk_set HQB1.out 0 v1); have HB2' := Aside0.mk (below_set (j := 0) (v := v1) HB1.out (Nat.le_succ _)); rw [HV1.out] at HO2 HPB2 HQB2 HB2'; rw [← hw2] at HO2 HPB2 HQB2 HB2'; clear hw2)))
                go_roundg (9 - (j + 1))
                case measure => have := HG2.out; omega
                case rel => exact ⟨j + 1, _, by go_num, ⟨by have := HG2.out; omega⟩, ⟨by rw [lettersTo_succ _ _ _ hj, HRr.out]; exact HL1.out ▸ HO2.out⟩, HPB2, HQB2, HB2'⟩
              | true =>
                obtain ⟨L1, hL1⟩ : ∃ L1, lettersTo true p.f0 j ++ [letterOf r] = L1 := ⟨_, rfl⟩
                have HL1 := Aside0.mk hL1
                clear hL1
                have hm0 : 0 ≤ r % 4294967296 % 4 := Int.emod_nonneg _ (by decide)
                have hm1 : r % 4294967296 % 4 < 4 := Int.emod_lt_of_pos _ (by decide)
                have hm2 : 0 ≤ r % 4 := Int.emod_nonneg _ (by decide)
                have hm3 : r % 4 < 4 := Int.emod_lt_of_pos _ (by decide)
                go_wp2_with (first | ((with_reducible refine gate_dst (N := 32) rfl ?_); (refine Kd.R_lit (Kd.int .i32) (w0 := wo) wo.heap.size 21 ?hg (N := 32) ?hd (xs := ([97, 98, 99, 46] : List Int)) (inner := [.int .i32 97, .int .i32 98, .int .i32 99, .int .i32 46]) (ok := fun _ => True) (okp := fun _ => True) ?hr ?hp (fun _ hk => hk) trivial HB2.out (below_size HB2.out) (by simp) ?_; (case hd => rfl); (case hg => rfl); (case hr => first | (go_simp; done) | (go_simp; rfl)); (case hp => exact Reps.one (show Kd.M (Kd.int .i32) _ _ _ 97 [.int .i32 97] from rfl) (Reps.one (show Kd.M (Kd.int .i32) _ _ _ 98 [.int .i32 98] from rfl) (Reps.one (show Kd.M (Kd.int .i32) _ _ _ 99 [.int .i32 99] from rfl) (Reps.one (show Kd.M (Kd.int .i32) _ _ _ 46 [.int .i32 46] from rfl) (Reps.none _ _))))); intro vl wl hol hbl hgl hnl; clear hnl; obtain ⟨gl, cl, hvl, _, _, _⟩ := Kd.R_form hol (by simp); rw [hvl] at hol ⊢; have hcl : wl.cell? ⟨gl, (r % 4).toNat, none⟩ = some (.int .i32 (letterOf r)) := (Kd.R_cell (0 : Int) hol (r % 4) hm2 hm3).1; have HLw := Aside0.mk (Kd.R_grown HL.out hgl (fun _ _ => by simp)); have HBw := Aside0.mk hbl; have HPBw := Aside0.mk (blk_grown HPB.out hgl (by simp)); have HQBw := Aside0.mk (blk_grown HQB.out hgl (by simp)); have hcq' : wl.cell? ⟨wo.heap.size + 1, 0, none⟩ = some (.slice Av (lettersTo true p.f0 j).length cv) := (by rw [blk_cell HQBw.out 0]; rfl); clear hol hbl hgl hvl)) | ((with_reducible refine gate_builtin (b := .append) (xs := #[.tmp 39, .tmp 41]) rfl ?_); at_builtin; (refine Kd.R_append (Kd.int .i32) (w0 := wo) wo.heap.size rfl (.tmp 39) (.tmp 41) 23 21 (.int .i32 0) 4 rfl Try.underlying23 info21 rfl (by decide) (by omega) (.slice Av (lettersTo true p.f0 j).length cv) (lettersTo true p.f0 j) _ [.int .i32 (letterOf r)] (fun _ => True) (fun _ => False) rfl rfl rfl (fun _ hk => hk.elim) (fun _ _ => trivial) HLw.out HBw.out (below_size HBw.out) (by have := HLL.out; omega) ?_; intro v1 w1 ho1 hb1 hg1 hat1; clear hat1; rw [HL1.out] at ho1; have HPB1 := Aside0.mk (blk_grown HPBw.out hg1 (Kd.R_ne HLw.out HPBw.out (by decide))); have HQB1 := Aside0.mk (blk_grown HQBw.out hg1 (Kd.R_ne HLw.out HQBw.out (by decide))); obtain ⟨A1', c1', hv1⟩ := Kd.R_slice ho1; have HO1 := Aside0.mk ho1; have HB1 := Aside0.mk hb1; have HV1 := Aside0.mk hv1; rw [hv1]; clear ho1 hb1 hg1 hv1)) | (refine gate_ (.store 23 (.tmp 43) (.tmp 42)) rfl ?_; (refine store1 (u := .slice A1' L1.length c1') rfl rfl 23 (.tmp 43) (.tmp 42) rfl rfl rfl rfl size23 rfl HQB1.out (by simp) ?_; intro w2 hw2; have HO2 := Aside0.mk (Kd.R_set HO1.out HQB1.out (by decide) 0 v1); have HPB2 := Aside0.mk (blk_far (p := ⟨wo.heap.size + 1, 0, none⟩) HPB1.out (by simp) v1); have HQB2 := Aside0.mk (blk_set HQB1.out 0 v1); have HB2' := Aside0.mk (below_set (j := 0) (v := v1) HB1.out (Nat.le_succ _)); rw [HV1.out] at HO2 HPB2 HQB2 HB2'; rw [← hw2] at HO2 HPB2 HQB2 HB2'; clear hw2)))
                go_roundg (9 - (j + 1))
                case measure => have := HG2.out; omega
                case rel => exact ⟨j + 1, _, by go_num, ⟨by have := HG2.out; omega⟩, ⟨by rw [lettersTo_succ _ _ _ hj, HRr.out]; exact HL1.out ▸ HO2.out⟩, HPB2, HQB2, HB2'⟩
          · have hje : lettersTo fit p.f0 j = lettersTo fit p.f0 8 := by have := HG2.out; exact lettersTo_all fit p.f0 j (by omega) (by omega)
            rw [hje] at HL
            clear hje
            obtain ⟨Av, cv, hv0⟩ := Kd.R_slice HL.out
            subst hv0
            have hq1 : wr.cell? ⟨wo.heap.size + 1, 1, none⟩ = some (.slice none 0 0) := by rw [blk_cell HQB.out 1]; rfl
            have hp1 : wr.cell? ⟨wo.heap.size, 1, none⟩ = some (.slice A1 p.f1.length c1) := by rw [blk_cell HPB.out 1]; rfl
            have hcc1 : p.f1.length ≤ c1 := HC1.out
            obtain ⟨L5, hL5⟩ : ∃ L5, p.f1.take 12 = L5 := ⟨_, rfl⟩
            have hl5 : L5.length ≤ 12 := by rw [← hL5]; exact List.length_take_le _ _
            have hsl := smallTo_len fit l k
            have hk40 : k ≤ 40 := HG.out.2.2
            have HL5' := Aside0.mk hL5
            have HL5 := Aside0.mk hL5.symm
            clear hL5
            have HQBd : Aside0 (wr.drew.heap[wo.heap.size + 1]? = some (.cells #[.slice Av (lettersTo fit p.f0 8).length cv, .slice none 0 0] 39 (0, 0))) := ⟨HQB.out⟩
            have HLd := Aside0.mk (Kd.R_drew HL.out)
            have HBd := Aside0.mk (below_drew HB2.out)
            have hcu := cut_reads (Kd.C_below HR1.out (below_then HB.out (below_size HB.out) HBd.out))
            have HCU := Aside0.mk hcu
            clear hcu
            go_wp2_with fail
            by_cases h12 : p.f1.length ≤ 12
            · have hm12 : ((12 : Int) < (p.f1.length : Int)) = False := eq_false (by omega)
              skip
              go_still_tail 9, (by kernel_rfl)
              change wpList _ _ _ _ _ wr.drew
              have HRC := Aside0.mk (HCU.out.1 h12)
              rw [HL5'.out] at HRC
              go_wp2_with (first | ((with_reducible refine gate_builtin (b := .append) (xs := #[.tmp 46, .tmp 53]) rfl ?_); at_builtin; (refine Kd.R_append_rows (Kd.int .u8) (w0 := wo) wo.heap.size rfl (.tmp 46) (.tmp 53) 27 5 (.int .u8 0) 1 rfl Try.underlying27 info5 rfl (by decide) (by omega) (.slice none 0 0) ([] : List Int) L5 _ _ _ (fun _ => True) (fun _ => False) rfl rfl (Kd.R_nil _ _ _ _ _) HRC.out (fun _ _ h => h) (fun _ h => h.elim) (fun _ _ => trivial) HBd.out (below_size HBd.out) (by show (0 + _) * 1 ≤ _; omega) ?_; intro v1 w1 ho1 hb1 hg1 hat1; clear hat1; rw [List.nil_append] at ho1; have HL1 := Aside0.mk (Kd.R_grown HLd.out hg1 (fun _ _ => by simp [Value.ownBlock])); have HQB1 := Aside0.mk (blk_grown HQBd.out hg1 (by simp [Value.ownBlock])); obtain ⟨A5, c5, hv1⟩ := Kd.R_slice ho1; rw [hv1] at ho1 ⊢; have HO1 := Aside0.mk ho1; have HB1 := Aside0.mk hb1; clear ho1 hb1 hg1 hv1)) | (refine gate_ (.store 27 (.tmp 55) (.tmp 54)) rfl ?_; (refine store1 (u := .slice A5 L5.length c5) rfl rfl 27 (.tmp 55) (.tmp 54) rfl rfl rfl rfl size27 rfl HQB1.out (by simp) ?_; intro w2 hw2; have HL2 := Aside0.mk (Kd.R_set HL1.out HQB1.out (by decide) 1 (.slice A5 L5.length c5)); have HO2 := Aside0.mk (Kd.R_set HO1.out HQB1.out (by decide) 1 (.slice A5 L5.length c5)); have HQB2 := Aside0.mk (blk_set HQB1.out 1 (.slice A5 L5.length c5)); have HB2' := Aside0.mk (below_set (j := 1) (v := .slice A5 L5.length c5) HB1.out (Nat.le_succ _)); rw [← hw2] at HL2 HO2 HQB2 HB2'; have q0 : w2.cell? ⟨wo.heap.size + 1, 0, none⟩ = some (.slice Av (lettersTo fit p.f0 8).length cv) := (by rw [blk_cell HQB2.out 0]; rfl); have q1 : w2.cell? ⟨wo.heap.size + 1, 1, none⟩ = some (.slice A5 L5.length c5) := (by rw [blk_cell HQB2.out 1]; rfl); have HO6 := Aside0.mk (Kd.R_below HO.out HB2'.out); have HB6 := Aside0.mk (below_then HB.out (below_size HB.out) HB2'.out); have HM := Aside0.mk (rows_mk (p := smallOne fit p) (below_size HB.out) HL5'.out HL2.out HO2.out); clear hw2)) | ((with_reducible refine gate_builtin (b := .append) (xs := #[.tmp 56, .tmp 58]) rfl ?_); at_builtin; (refine Kd.R_append k39 (w0 := w) w.heap.size rfl (.tmp 56) (.tmp 58) 22 39 (.agg #[.slice none 0 0, .slice none 0 0]) 48 rfl Try.underlying22 info39 rfl (by decide) (by omega) u5 (smallTo fit l k) (smallOne fit p) [.slice Av (lettersTo fit p.f0 8).length cv, .slice A5 L5.length c5] (fun _ => True) (fun b_ => wo.heap.size ≤ b_) rfl rfl HM.out (rows_ok HO.out) (fun _ _ => trivial) HO6.out HB6.out (below_size HB6.out) (by omega) ?_; intro v3 w3 ho3 hb3 hg3 hat3; clear hat3 hg3; have HO3 := Aside0.mk ho3; have HB3 := Aside0.mk hb3; clear ho3 hb3)))
              go_roundg (41 - (k + 1))
              case measure => have := HG.out; omega
              case rel => exact ⟨k + 1, by go_num, ⟨by have := HG.out; omega⟩, ⟨by rw [smallTo_succ _ _ _ hk, HP.out]; exact HO3.out⟩, HB3⟩
            · have hm12 : ((12 : Int) < (p.f1.length : Int)) = True := eq_true (by omega)
              have hc12 : (12 : Int) ≤ (c1 : Int) := by omega
              have hc13 : 12 ≤ c1 := by omega
              go_still_tail 9, (by kernel_rfl)
              change wpList _ _ _ _ _ wr.drew
              have HRC := Aside0.mk (HCU.out.2 (by omega))
              rw [HL5'.out] at HRC
              go_wp2_with (first | ((with_reducible refine gate_builtin (b := .append) (xs := #[.tmp 46, .tmp 53]) rfl ?_); at_builtin; (refine Kd.R_append_rows (Kd.int .u8) (w0 := wo) wo.heap.size rfl (.tmp 46) (.tmp 53) 27 5 (.int .u8 0) 1 rfl Try.underlying27 info5 rfl (by decide) (by omega) (.slice none 0 0) ([] : List Int) L5 _ _ _ (fun _ => True) (fun _ => False) rfl rfl (Kd.R_nil _ _ _ _ _) HRC.out (fun _ _ h => h) (fun _ h => h.elim) (fun _ _ => trivial) HBd.out (below_size HBd.out) (by show (0 + _) * 1 ≤ _; omega) ?_; intro v1 w1 ho1 hb1 hg1 hat1; clear hat1; rw [List.nil_append] at ho1; have HL1 := Aside0.mk (Kd.R_grown HLd.out hg1 (fun _ _ => by simp [Value.ownBlock])); have HQB1 := Aside0.mk (blk_grown HQBd.out hg1 (by simp [Value.ownBlock])); obtain ⟨A5, c5, hv1⟩ := Kd.R_slice ho1; rw [hv1] at ho1 ⊢; have HO1 := Aside0.mk ho1; have HB1 := Aside0.mk hb1; clear ho1 hb1 hg1 hv1)) | (refine gate_ (.store 27 (.tmp 55) (.tmp 54)) rfl ?_; (refine store1 (u := .slice A5 L5.length c5) rfl rfl 27 (.tmp 55) (.tmp 54) rfl rfl rfl rfl size27 rfl HQB1.out (by simp) ?_; intro w2 hw2; have HL2 := Aside0.mk (Kd.R_set HL1.out HQB1.out (by decide) 1 (.slice A5 L5.length c5)); have HO2 := Aside0.mk (Kd.R_set HO1.out HQB1.out (by decide) 1 (.slice A5 L5.length c5)); have HQB2 := Aside0.mk (blk_set HQB1.out 1 (.slice A5 L5.length c5)); have HB2' := Aside0.mk (below_set (j := 1) (v := .slice A5 L5.length c5) HB1.out (Nat.le_succ _)); rw [← hw2] at HL2 HO2 HQB2 HB2'; have q0 : w2.cell? ⟨wo.heap.size + 1, 0, none⟩ = some (.slice Av (lettersTo fit p.f0 8).length cv) := (by rw [blk_cell HQB2.out 0]; rfl); have q1 : w2.cell? ⟨wo.heap.size + 1, 1, none⟩ = some (.slice A5 L5.length c5) := (by rw [blk_cell HQB2.out 1]; rfl); have HO6 := Aside0.mk (Kd.R_below HO.out HB2'.out); have HB6 := Aside0.mk (below_then HB.out (below_size HB.out) HB2'.out); have HM := Aside0.mk (rows_mk (p := smallOne fit p) (below_size HB.out) HL5'.out HL2.out HO2.out); clear hw2)) | ((with_reducible refine gate_builtin (b := .append) (xs := #[.tmp 56, .tmp 58]) rfl ?_); at_builtin; (refine Kd.R_append k39 (w0 := w) w.heap.size rfl (.tmp 56) (.tmp 58) 22 39 (.agg #[.slice none 0 0, .slice none 0 0]) 48 rfl Try.underlying22 info39 rfl (by decide) (by omega) u5 (smallTo fit l k) (smallOne fit p) [.slice Av (lettersTo fit p.f0 8).length cv, .slice A5 L5.length c5] (fun _ => True) (fun b_ => wo.heap.size ≤ b_) rfl rfl HM.out (rows_ok HO.out) (fun _ _ => trivial) HO6.out HB6.out (below_size HB6.out) (by omega) ?_; intro v3 w3 ho3 hb3 hg3 hat3; clear hat3 hg3; have HO3 := Aside0.mk ho3; have HB3 := Aside0.mk hb3; clear ho3 hb3)))
              go_roundg (41 - (k + 1))
              case measure => have := HG.out; omega
              case rel => exact ⟨k + 1, by go_num, ⟨by have := HG.out; omega⟩, ⟨by rw [smallTo_succ _ _ _ hk, HP.out]; exact HO3.out⟩, HB3⟩
    · have hfin : smallTo fit l k = small fit l := by
        have h1 : k = l.length := by have := HG.out; omega
        have h2 : l.length ≤ 40 := by have := HG.out; omega
        unfold small smallTo
        rw [h1, List.take_length, List.take_of_length_le h2]
      have HF := Aside0.mk hfin
      clear hfin
      go_wp2_with fail
      go_ret
      exact ⟨_, rfl, HF.out ▸ HO.out, HB.out⟩
end Go.Proofs.Ytoefjhdcipgacaa.Sm
