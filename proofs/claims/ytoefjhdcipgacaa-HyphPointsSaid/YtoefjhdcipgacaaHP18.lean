/-
 Part 18 of what the law HyphPoints rests on: contracts of the functions that it calls, and plain laws of what they compute.
-/
import Derived.Deep.RegionWith
import Derived.Deep.DeepCutAuto
import Derived.Test.YtoefjhdcipgacaaHP6
import Derived.Test.YtoefjhdcipgacaaHP7
import Derived.Test.YtoefjhdcipgacaaHP13
import Derived.Test.YtoefjhdcipgacaaHP14
import Derived.Test.YtoefjhdcipgacaaHP17
section
namespace Go.Proofs.Ytoefjhdcipgacaa.Hy
open Go.RowKit Go.Proofs.YtoefjhdcipgacaaW.PrintWords Go.Proofs.YtoefjhdcipgacaaW.PrintLast Go.Proofs.YtoefjhdcipgacaaW.PrintMore
open Go.Proofs.Ytoefjhdcipgacaa.PA
attribute [local go_sem] max2_int min2_int max_two min_two
theorem below_none {W w1 : World} (hg : W.grownBy w1 none) : Below W.heap.size W w1 := Below.grown (Below.refl _ _) hg (Nat.le_refl _) (fun k h => by cases h)
def ptAt (V : List Int) (n : Nat) (left right : Int) (j : Nat) : Bool := decide (left ≤ (j : Int)) && (decide ((j : Int) + right ≤ (n : Int)) && (Int.tmod (rd V (j : Int)) 2 == 1))
def pts (V : List Int) (n : Nat) (left right : Int) : List Bool := (List.range (n + 1)).map (ptAt V n left right)
theorem pts_length (V : List Int) (n : Nat) (left right : Int) : (pts V n left right).length = n + 1 := by simp [pts]
theorem pts_getD (V : List Int) (n : Nat) (left right : Int) (j : Nat) (h : j < n + 1) : (pts V n left right).getD j false = ptAt V n left right j := by
 simp [pts, List.getD_eq_getElem?_getD, h]
def wordVals (P W : List S39) (word : List Int) : List Int := match W.find? fun p => decide (p.f0 = word) with
 | some p => p.f1
 | none => Tr.values (Tr.make (P.map Tr.pq)) word
theorem wordVals_none {P W : List S39} {word : List Int} (h : ∀ p ∈ W, p.f0 ≠ word) : wordVals P W word = Tr.values (Tr.make (P.map Tr.pq)) word := by
 have : W.find? (fun p => decide (p.f0 = word)) = none := by
  rw [List.find?_eq_none]
  intro p hp
  simpa using h p hp
 rw [wordVals, this]
theorem find_first {W : List S39} {word : List Int} {j : Nat} (hj : j < W.length) (h1 : (rd_T39 W (j : Int)).f0 = word) (h2 : ∀ p ∈ W.take j, p.f0 ≠ word) : W.find? (fun p => decide (p.f0 = word)) = some (rd_T39 W (j : Int)) := by
 have e : W[j] = rd_T39 W (j : Int) := by simp [rd_T39, List.getD_eq_getElem?_getD, List.getElem?_eq_getElem hj]
 rw [List.find?_eq_some_iff_append]
 refine ⟨by simpa using h1, W.take j, W.drop (j + 1), ?_, fun p hp => by simpa using h2 p hp⟩
 rw [← e, List.getElem_cons_drop, List.take_append_drop]
theorem wordVals_some {P W : List S39} {word : List Int} {j : Nat} (hj : j < W.length) (h1 : (rd_T39 W (j : Int)).f0 = word) (h2 : ∀ p ∈ W.take j, p.f0 ≠ word) : wordVals P W word = (rd_T39 W (j : Int)).f1 := by
 rw [wordVals, find_first hj h1 h2]
theorem wordVals_length {P W : List S39} (word : List Int) (h : ∀ p ∈ W, p.f1.length = p.f0.length + 1) : (wordVals P W word).length = word.length + 1 := by
 unfold wordVals
 split
 ·rename_i p hp
  have h1 := List.find?_some hp
  rw [h p (List.mem_of_find?_eq_some hp), of_decide_eq_true h1]
 ·exact Tr.values_length _ _
def Upto (V : List Int) (n : Nat) (left right i : Int) (bs : List Bool) : Prop := bs.length = n + 1 ∧ ∀ j : Nat, j < n + 1 → bs.getD j false = (decide ((j : Int) < i) && ptAt V n left right j)
theorem upto_start (V : List Int) (n : Nat) (left right : Int) (_h : 1 ≤ left) : Upto V n left right left (List.replicate (n + 1) false) := by
 refine ⟨List.length_replicate, fun j hj => ?_⟩
 simp only [List.getD_eq_getElem?_getD, List.getElem?_replicate, hj, if_true, Option.getD_some, ptAt]
 by_cases h1 : (j : Int) < left
 ·simp [show ¬ left ≤ (j : Int) by omega]
 ·simp [h1]
theorem upto_step {V : List Int} {n : Nat} {left right i : Int} {bs : List Bool} (h : Upto V n left right i bs) (h0 : left ≤ i) (hl : 1 ≤ left) (hi : i + right ≤ n) : Upto V n left right (i + 1) (bs.set i.toNat (Int.tmod (rd V i) 2 == 1)) := by
 refine ⟨by rw [List.length_set]; exact h.1, fun j hj => ?_⟩
 rw [List.getD_eq_getElem?_getD, List.getElem?_set]
 by_cases e : i.toNat = j
 ·have e' : (j : Int) = i := by omega
  rw [if_pos e, if_pos (by rw [e]; rw [h.1]; exact hj)]
  simp only [Option.getD_some, ptAt, e']
  simp [h0, hi, show i < i + 1 by omega]
 ·rw [if_neg e, ← List.getD_eq_getElem?_getD, h.2 j hj]
  have e' : (j : Int) ≠ i := by omega
  congr 1
  exact decide_eq_decide.2 (by omega)
theorem upto_end {V : List Int} {n : Nat} {left right i : Int} {bs : List Bool} (h : Upto V n left right i bs) (hi : (n : Int) < i + right) : bs = pts V n left right := by
 apply List.ext_getElem (by rw [h.1, pts_length])
 intro j h1 h2
 have hj : j < n + 1 := by rw [h.1] at h1; exact h1
 have a := h.2 j hj
 rw [List.getD_eq_getElem?_getD, List.getElem?_eq_getElem h1, Option.getD_some] at a
 have b := pts_getD V n left right j hj
 rw [List.getD_eq_getElem?_getD, List.getElem?_eq_getElem h2, Option.getD_some] at b
 rw [a, b]
 by_cases hh : (j : Int) < i
 ·simp [hh]
 ·simp only [hh, decide_false, Bool.false_and, ptAt]
  have : ¬ ((j : Int) + right ≤ n) := by omega
  simp [this]
end Go.Proofs.Ytoefjhdcipgacaa.Hy
end
section
namespace Go.Proofs.Ytoefjhdcipgacaa.Hy
open Go.RowKit Go.Proofs.YtoefjhdcipgacaaW.PrintWords Go.Proofs.YtoefjhdcipgacaaW.PrintLast Go.Proofs.YtoefjhdcipgacaaW.PrintMore
open Go.Proofs.Ytoefjhdcipgacaa.PA
attribute [local go_sem] max2_int min2_int max_two min_two
set_option maxHeartbeats 8000000 in
set_option maxRecDepth 100000 in
theorem word_nil (A : Option Addr) (c : Nat) (word : List Int) (w : World) (hwd : Tr.Word word) :
  Calls Try.prog 33 #[.pointer none, .slice A word.length c] w fun e w' => ∃ v, e = .returned v ∧ Kd.R Kd.bool 4 w' w.heap.size (fun _ => True) v (List.replicate (word.length + 1) false) ∧ Below w.heap.size w w' := by
 have hn : word.length ≤ 1000 := hwd.1
 clear hwd
 go_enter Try.func33, Try.ntmps33
 go_wp2_with (first
  | ((with_reducible refine gate_dst (N := 3) rfl ?_); refine box_event ?hg (N := 3) ?hd (cs := #[.slice A word.length c]) (t := 23) ?hr ?_; (case hd => rfl); (case hg => rfl); (case hr => first | (go_simp; done) | (go_simp; rfl)); intro g3 hg w1 hbox hb; have HB := Aside0.mk hb; have q3 : w1.cell? ⟨g3, 0, none⟩ = some (.slice A word.length c) := (blk_cell hbox 0).trans rfl; clear hb hbox hg)
  | ((with_reducible refine gate_dst (N := 12) rfl ?_); refine Kd.R_make Kd.bool _ 4 rfl (N := 12) rfl 58 _ _ rfl ((word.length : Int) + 1) rfl rfl Try.underlying58 (.bool false) 1 info4 rfl (by decide) (by omega) false (ok := fun _ => True) (okp := fun _ => True) rfl (fun _ hk => hk) trivial (by omega) (by omega) HB.out (below_size HB.out) ?_; intro v12 w12 ho hb hg_ hnew_; clear hg_ hnew_; rw [show ((word.length : Int) + 1).toNat = word.length + 1 by omega] at ho; generalize hbs : List.replicate (word.length + 1) false = bs at ho; have HBS := Aside0.mk hbs; have HO := Aside0.mk ho; replace HB := Aside0.mk hb; obtain ⟨Ao, co, rfl⟩ := Kd.R_slice ho; clear ho hb hbs))
 go_ret
 exact ⟨_, rfl, by rw [HBS.out]; exact HO.out, HB.out⟩
set_option maxHeartbeats 8000000 in
set_option maxRecDepth 100000 in
theorem word_calls (b : Nat) (ls : List S63) (P Ws : List S39) (left right : Int) (La : Option Addr) (Lc bt base : Nat) (Wa : Option Addr) (Wc : Nat) (A : Option Addr) (c : Nat) (word : List Int) (w : World)
  (hH : HyphAt w b ls (Tr.make (P.map Tr.pq)) Ws left right La Lc bt base Wa Wc) (hw : Kd.C (Kd.int .i32) w A word.length word) (hwc : word.length ≤ c) (hfit : Tr.Fit P) (hwd : Tr.Word word)
  (hl : 1 ≤ left ∧ left ≤ 24) (hr : 1 ≤ right ∧ right ≤ 24) (hws : ∀ p ∈ Ws, p.f1.length = p.f0.length + 1) :
  Calls Try.prog 33 #[.pointer (some ⟨b, 0, none⟩), .slice A word.length c] w fun e w' => ∃ v, e = .returned v ∧ Kd.R Kd.bool 4 w' w.heap.size (fun _ => True) v (pts (wordVals P Ws word) word.length left right) ∧ Below w.heap.size w w' := by
 have hn : word.length ≤ 1000 := hwd.1
 have HH := Aside0.mk hH
 have HW := Aside0.mk hw
 have HWc := Aside0.mk hwc
 have HF := Aside0.mk hfit
 have HWD := Aside0.mk hwd
 have HWS := Aside0.mk hws
 clear hH hw hwc hfit hwd hws
 go_enter Try.func33, Try.ntmps33
 go_upto_region 4 with (first
  | ((with_reducible refine gate_dst (N := 3) rfl ?_); refine box_event ?hg (N := 3) ?hd (cs := #[.slice A word.length c]) (t := 23) ?hr ?_; (case hd => rfl); (case hg => rfl); (case hr => first | (go_simp; done) | (go_simp; rfl)); intro g3 hg w1 hbox hb; have HB := Aside0.mk hb; have BK3 := Aside0.mk hbox; have q3 : w1.cell? ⟨g3, 0, none⟩ = some (.slice A word.length c) := (blk_cell hbox 0).trans rfl; clear hb hbox hg)
  | ((with_reducible refine gate_dst (N := 12) rfl ?_); refine Kd.R_make Kd.bool _ 4 rfl (N := 12) rfl 58 _ _ rfl ((word.length : Int) + 1) rfl rfl Try.underlying58 (.bool false) 1 info4 rfl (by decide) (by omega) false (ok := fun _ => True) (okp := fun _ => True) rfl (fun _ hk => hk) trivial (by omega) (by omega) HB.out (below_size HB.out) ?_; intro v12 w12 ho hb hg_ hnew_; clear hnew_; replace BK3 := Aside0.mk (blk_grown BK3.out hg_ (by simp)); clear hg_; rw [show ((word.length : Int) + 1).toNat = word.length + 1 by omega] at ho; generalize hbs : List.replicate (word.length + 1) false = bs at ho; have HBS := Aside0.mk hbs; have HO := Aside0.mk ho; have hb1 := hb; replace HB := Aside0.mk hb; obtain ⟨Ao, co, rfl⟩ := Kd.R_slice ho; clear ho hb hbs))
 obtain ⟨go, co', e1, hge, hlt, cells, hcells⟩ := Kd.R_form HO.out (by rw [← HBS.out, List.length_replicate]; omega)
 injection e1 with e1 _ e2
 subst e1
 subst e2
 have GE := Aside0.mk hge
 have HNE := Aside0.mk (blk_ne BK3.out hcells (by decide))
 have HCE : Aside0 (∃ cells, w12.heap[go]? = some (.cells cells 4 (0, 0))) := ⟨⟨_, hcells⟩⟩
 have HBL : Aside0 (bs.length = word.length + 1) := ⟨by rw [← HBS.out, List.length_replicate]⟩
 clear hge hlt hcells
 obtain ⟨V0, hV0⟩ : ∃ V0, V0 = Tr.values (Tr.make (P.map Tr.pq)) word := ⟨_, rfl⟩
 have HV0 := Aside0.mk hV0
 clear hV0
 go_cut [6] (fun v6 wc => Aside0 (Kd.R (Kd.int .u8) 5 wc w.heap.size (fun _ => True) v6 V0) ∧ Aside0 (Kd.R Kd.bool 4 wc w.heap.size (fun _ => True) (.slice (some ⟨go, 0, none⟩) bs.length co) bs) ∧ Aside0 (wc.heap[g3]? = some (.cells #[.slice A word.length c] 23 (0, 0))) ∧ Aside0 (∃ cells, wc.heap[go]? = some (.cells cells 4 (0, 0))) ∧ Aside0 (Below w.heap.size w wc))
 case first =>
  have hBh := HH.out.below HB.out
  have q1 : w12.cell? ⟨b, 1, none⟩ = some (.pointer (some ⟨bt, 0, none⟩)) := (blk_cell hBh.blk 1).trans rfl
  have q2 : w12.cell? ⟨g3, 0, none⟩ = some (.slice A word.length c) := (blk_cell BK3.out 0).trans rfl
  have hD := below_drew (Below.refl w12.heap.size w12)
  have HT := Aside0.mk (hBh.trie.below hD)
  clear hBh
  replace HO := Aside0.mk (Kd.R_drew HO.out)
  replace BK3 := Aside0.mk (blk_below BK3.out hD)
  replace HCE := Aside0.mk (HCE.out.imp fun _ h => blk_below h hD)
  replace HB := Aside0.mk (below_drew HB.out)
  clear hD
  go_region_with (go_at_call 20; refine Calls.mono (Tr.values_fit P _ bt A c word _ HT.out (Kd.C_below HW.out HB.out) HWc.out HF.out HWD.out) ?_; rintro e wv ⟨vv, rfl, hV, hb⟩; rw [← HV0.out] at hV; have HV := Aside0.mk (Kd.R_lower hV (below_size HB.out)); replace HO := Aside0.mk (Kd.R_below HO.out hb); replace BK3 := Aside0.mk (blk_below BK3.out hb); replace HCE := Aside0.mk (HCE.out.imp fun _ h => blk_below h hb); replace HB := Aside0.mk (below_step HB.out hb); clear hb hV)
  all_goals go_wp2_with fail
  all_goals go_meet
  all_goals exact ⟨HV, HO, BK3, HCE, HB⟩
 case rest =>
  obtain ⟨HV, HO', BK3', HCE', HB'⟩ := hcut
  clear HO BK3 HCE HB
  obtain ⟨V, hV⟩ : ∃ V, V = wordVals P Ws word := ⟨_, rfl⟩
  have HVE := Aside0.mk hV
  have HVL : Aside0 (V.length = word.length + 1) := ⟨by rw [hV]; exact wordVals_length word HWS.out⟩
  clear hV
  rename_i v6
  have HWc' := Aside0.mk (HH.out.below HB'.out).words
  have q1 : wc.cell? ⟨b, 2, none⟩ = some (.slice Wa Ws.length Wc) := (blk_cell (HH.out.below HB'.out).blk 2).trans rfl
  go_upto_if 29 with (go_at_call 45; refine (indexTold_calls Ws Wa Wc g3 A c word _ HWc'.out (Kd.C_below HW.out HB'.out) BK3'.out).mono ?_; rintro e we ⟨i, rfl, hF, hb⟩; have HFi := Aside0.mk hF; replace HV := Aside0.mk (Kd.R_below HV.out hb); replace HCE' := Aside0.mk (HCE'.out.imp fun _ h => blk_below h hb); replace HO' := Aside0.mk (Kd.R_below HO'.out hb); replace BK3' := Aside0.mk (blk_below BK3'.out hb); replace HB' := Aside0.mk (below_step HB'.out hb); clear hb hF)
  go_cut [6] (fun v6 wd => wd = we ∧ ∃ AV cV, v6 = .slice AV V.length cV ∧ Aside0 (∀ w' : World, Below w.heap.size w w' → (∀ k, k ≠ go → w'.heap[k]? = we.heap[k]?) → Kd.C (Kd.int .u8) w' AV V.length V))
  case first =>
   rcases HFi.out with ⟨rfl, h⟩ | ⟨j, rfl, hj, hj1, hj2⟩
   ·obtain ⟨AV, cV, rfl⟩ := Kd.R_slice HV.out
    have hve : V = V0 := by rw [HVE.out, HV0.out]; exact wordVals_none h
    have HVV := Aside0.mk hve
    clear h hve
    go_wp2_with fail
    go_meet
    case rel =>
     refine ⟨rfl, AV, cV, by rw [HVV.out], ⟨fun w' _ hk => ?_⟩⟩
     rw [HVV.out]
     obtain ⟨cs, hcs⟩ := HCE'.out
     exact (Kd.R_reads' (Kd.R_move (Kd.R_types HV.out hcs (by decide)) (fun k hk' => hk k hk'.2))).2.2
   ·obtain ⟨p, hp⟩ : ∃ p, p = rd_T39 Ws (j : Int) := ⟨_, rfl⟩
    have hve : V = p.f1 := by rw [HVE.out, hp]; exact wordVals_some hj hj1 hj2
    obtain ⟨ad, A0, c0, A1, c1, e1, hx0, hx1, _, _, _, hi1⟩ := at_T39 HH.out.words (j : Int) (by omega) (by omega)
    subst e1
    rw [← hp, ← hve] at hi1 hx1
    have HI := Aside0.mk hi1
    replace hx1 := (HB'.out.cell (World.block_lt_of_cell? w _ hx1)).trans hx1
    have q5 : we.cell? ⟨b, 2, none⟩ = some (.slice (some ad) Ws.length Wc) := (blk_cell (HH.out.below HB'.out).blk 2).trans rfl
    simp only [Int.toNat_natCast] at hx1
    have p1 : (0 : Int) ≤ (j : Int) := by omega
    have p2 : (j : Int) < (Ws.length : Int) := by omega
    clear hi1 hve hj1 hj2 hx0 hp hj q1
    go_wp2_with fail
    go_meet
    case rel =>
     refine ⟨rfl, A1, c1, rfl, ⟨fun w' hb _ => Kd.C_below HI.out hb⟩⟩
  case rest =>
   obtain ⟨hwe, AV, cV, rfl, HVC⟩ := hcut
   subst hwe
   rename World => wz
   clear HV HFi HWc' q1
   have q3 : wz.cell? ⟨b, 3, none⟩ = some (.int .i64 left) := (blk_cell (HH.out.below HB'.out).blk 3).trans rfl
   obtain ⟨ad0, hAV, _⟩ := Kd.at_int (HVC.out wz HB'.out (fun _ _ => rfl)) 0 (by omega) (by have := HVL.out; omega)
   subst hAV
   have HUP : Aside0 (Upto V word.length left right left bs) := ⟨by rw [← HBS.out]; exact upto_start V word.length left right hl.1⟩
   obtain ⟨g0, hg0⟩ : ∃ g0 : Nat, (g0 : Int) + left = (word.length : Int) + 100 := ⟨((word.length : Int) + 100 - left).toNat, by omega⟩
   have HG0 := Aside0.mk hg0
   clear hg0
   go_wp2_with fail
   clear q3
   go_loopg [8] g0 (fun g v8 w' => ∃ (j : Int) (bs2 : List Bool), v8 = .int .i64 j ∧ Aside0 (Kd.R Kd.bool 4 w' w.heap.size (fun _ => True) (.slice (some ⟨go, 0, none⟩) bs.length co) bs2) ∧ Aside0 (Upto V word.length left right j bs2) ∧ Aside0 ((g : Int) + j = (word.length : Int) + 100) ∧ Aside0 (left ≤ j) ∧ Aside0 (∀ k, k ≠ go → w'.heap[k]? = wz.heap[k]?) ∧ Aside0 (Below w.heap.size w w'))
   case atStart => exact ⟨left, bs, rfl, HO', HUP, HG0, ⟨Int.le_refl _⟩, ⟨fun _ _ => rfl⟩, HB'⟩
   case round =>
    obtain ⟨j, bs2, rfl, HOr, HUr, HGr, HLr, HKr, HBr⟩ := hrel
    have b1 : 1 ≤ j := by have := HLr.out; omega
    have b2 : j ≤ (word.length : Int) + 100 := by have := HGr.out; omega
    have q4 : wr.cell? ⟨b, 4, none⟩ = some (.int .i64 right) := (blk_cell (HH.out.below HBr.out).blk 4).trans rfl
    have q5 : wr.cell? ⟨g3, 0, none⟩ = some (.slice A word.length c) := (blk_cell ((HKr.out g3 HNE.out).trans BK3'.out) 0).trans rfl
    go_upto_region 9 with fail
    go_cut [50] (fun v50 wx => v50 = .bool (decide (j ≤ (word.length : Int) - right)) ∧ Aside0 (Kd.R Kd.bool 4 wx w.heap.size (fun _ => True) (.slice (some ⟨go, 0, none⟩) bs.length co) bs2) ∧ Aside0 (∀ k, k ≠ go → wx.heap[k]? = wz.heap[k]?) ∧ Aside0 (Below w.heap.size w wx))
    case first =>
     go_region
     all_goals go_wp2_with fail
     all_goals go_meet
     all_goals exact ⟨rfl, ⟨Kd.R_drew HOr.out⟩, ⟨fun k hk => HKr.out k hk⟩, ⟨below_drew HBr.out⟩⟩
    case rest =>
     obtain ⟨hv50, HOx, HKx, HBx⟩ := hcut
     clear HOr HKr HBr q4 q5
     by_cases hc : j ≤ (word.length : Int) - right
     ·rw [decide_eq_true hc] at hv50
      subst hv50
      have hlV : j < (V.length : Int) := by have := HVL.out; omega
      have hlB : j < (bs.length : Int) := by have := HBL.out; omega
      have h0j : (0 : Int) ≤ j := by omega
      obtain ⟨ad, e, hx⟩ := Kd.at_int (HVC.out wc HBx.out HKx.out) j h0j hlV
      injection e with e
      subst e
      obtain ⟨hy, hyf⟩ := Kd.R_celln false HOx.out j h0j hlB
      have HPG := Kd.R_putg HOx.out j (Int.tmod (rd V j) 2 == 1)
      have HC := Aside0.mk hc
      clear hc
      go_wp2_with ((with_reducible refine gate_store (t := 4) (p := 61) rfl ?_); refine store_event (t := 4) (p := 61) (v := ?vo) (w1 := (wc.setCell ⟨go, j.toNat, none⟩ (.bool (Int.tmod (rd V j) 2 == 1)))) ?hg ?ho ?hn ?hr ?_; (case ho => rfl); (case hg => rfl); (case hn => rfl); (case hr => first | (go_simp; done) | (go_simp; rfl)); intro w29 hw; have HO2 := Aside0.mk (show Kd.R Kd.bool 4 w29 w.heap.size (fun _ => True) (.slice (some ⟨go, 0, none⟩) bs.length co) (bs2.set j.toNat (Int.tmod (rd V j) 2 == 1)) by rw [hw]; exact HPG.1); have HK2 : Aside0 (∀ k, k ≠ go → w29.heap[k]? = wz.heap[k]?) := ⟨fun k hk => by rw [hw]; exact (Below.heap_setCell wc _ _ k hk).trans (HKx.out k hk)⟩; have HB2 : Aside0 (Below w.heap.size w w29) := ⟨by rw [hw]; exact below_set HBx.out GE.out⟩; clear hw HPG hy hyf)
      go_roundg (gk - 1)
      case measure => have := HGr.out; have := HC.out; omega
      case rel => exact ⟨j + 1, _, by go_num, HO2, ⟨upto_step HUr.out HLr.out hl.1 (by have := HC.out; omega)⟩, ⟨by have := HGr.out; have := HC.out; omega⟩, ⟨by have := HLr.out; omega⟩, HK2, HB2⟩
     ·rw [decide_eq_false hc] at hv50
      subst hv50
      have hE : bs2 = pts V word.length left right := upto_end HUr.out (by omega)
      have HE := Aside0.mk hE
      clear hE hc
      go_wp2_with fail
      go_ret
      exact ⟨_, rfl, by rw [← HVE.out, ← HE.out]; exact HOx.out, HBx.out⟩
end Go.Proofs.Ytoefjhdcipgacaa.Hy
end
section
namespace Go.Proofs.Ytoefjhdcipgacaa.Hy
open Go.RowKit Go.Proofs.YtoefjhdcipgacaaW.PrintWords Go.Proofs.YtoefjhdcipgacaaW.PrintLast Go.Proofs.YtoefjhdcipgacaaW.PrintMore
open Go.Proofs.Ytoefjhdcipgacaa.PA
attribute [local go_sem] max2_int min2_int max_two min_two
def Rise (ls : List S63) : Prop := ∀ i j : Nat, i ≤ j → j < ls.length → (rd_T63 ls (i : Int)).f1 ≤ (rd_T63 ls (j : Int)).f1
def Cut (ls : List S63) (r : Int) (i : Nat) : Prop := i ≤ ls.length ∧ (∀ m : Nat, m < i → (rd_T63 ls (m : Int)).f1 < r) ∧ ∀ m : Nat, i ≤ m → m < ls.length → r ≤ (rd_T63 ls (m : Int)).f1
set_option maxHeartbeats 8000000 in
set_option maxRecDepth 100000 in
theorem search_calls (b2 b3 b : Nat) (r : Int) (ls : List S63) (La : Option Addr) (Lc : Nat) (v1 v2 v3 v4 : Value) (w : World) (h2 : w.heap[b2]? = some (.cells #[.pointer (some ⟨b, 0, none⟩)] 43 (0, 0))) (h3 : w.heap[b3]? = some (.cells #[.int .i32 r] 21 (0, 0)))
  (hb : w.heap[b]? = some (.cells #[.slice La ls.length Lc, v1, v2, v3, v4] 95 (0, 0))) (hl : Kd.C k63 w La ls.length ls) (hr : Rise ls) (h8 : ls.length ≤ 1000000) :
  Calls Try.prog 48 #[.int .i64 (ls.length : Int), .func (.func 49) #[] #[.pointer (some ⟨b2, 0, none⟩), .pointer (some ⟨b3, 0, none⟩)]] w fun e w' => ∃ i : Nat, e = .returned (.int .i64 (i : Int)) ∧ Cut ls r i ∧ ∃ nd, w' = w.drewN nd := by
 have H2 := Aside0.mk h2
 have H3 := Aside0.mk h3
 have HB := Aside0.mk hb
 have HL := Aside0.mk hl
 have HR := Aside0.mk hr
 clear h2 h3 hb hl hr
 go_enter Try.func48, Try.ntmps48
 go_wp2_with fail
 go_loopg [5, 6] (ls.length + 1) (fun g v5 v6 w' => ∃ i j : Nat, v5 = .int .i64 (i : Int) ∧ v6 = .int .i64 (j : Int) ∧ Aside0 (g = j - i + 1) ∧ Aside0 (i ≤ j ∧ j ≤ ls.length) ∧ Aside0 ((∀ m : Nat, m < i → (rd_T63 ls (m : Int)).f1 < r) ∧ ∀ m : Nat, j ≤ m → m < ls.length → r ≤ (rd_T63 ls (m : Int)).f1) ∧ Aside0 (∃ nd, w' = w.drewN nd))
 case atStart => exact ⟨0, ls.length, rfl, rfl, ⟨by omega⟩, ⟨by omega⟩, ⟨fun m h => absurd h (Nat.not_lt_zero m), fun m h1 h2 => by omega⟩, ⟨0, rfl⟩⟩
 case round =>
  obtain ⟨i, j, rfl, rfl, HG, HIJ, HM, HW⟩ := hrel
  have hij := HIJ.out
  by_cases hc : i < j
  ·obtain ⟨h, hh⟩ : ∃ h : Nat, h = (i + j) / 2 := ⟨_, rfl⟩
   have hh1 : i ≤ h ∧ h < j := by omega
   go_upto_region 3 with fail
   go_cut [7] (fun v7 wc => wc = wr ∧ v7 = .int .i64 (h : Int))
   case first =>
    go_wp2_with fail
    go_meet
    case rel => exact ⟨rfl, by rw [hh]; simp⟩
   case rest =>
    obtain ⟨rfl, rfl⟩ := hcut
    have hhl : Aside0 (h < ls.length) := ⟨by omega⟩
    have HH1 := Aside0.mk hh1
    have HH2 := Aside0.mk hij
    have hbd : (h : Int) ≤ 1000000 := by omega
    have hbd0 : (0 : Int) ≤ (h : Int) := by omega
    clear hh hh1 hij hc
    have K2 : Aside0 (wc.heap[b2]? = some (.cells #[.pointer (some ⟨b, 0, none⟩)] 43 (0, 0))) := ⟨by obtain ⟨nd, e1⟩ := HW.out; rw [e1]; exact blk_drewN H2.out nd⟩
    have K3 : Aside0 (wc.heap[b3]? = some (.cells #[.int .i32 r] 21 (0, 0))) := ⟨by obtain ⟨nd, e1⟩ := HW.out; rw [e1]; exact blk_drewN H3.out nd⟩
    have KB : Aside0 (wc.heap[b]? = some (.cells #[.slice La ls.length Lc, v1, v2, v3, v4] 95 (0, 0))) := ⟨by obtain ⟨nd, e1⟩ := HW.out; rw [e1]; exact blk_drewN HB.out nd⟩
    have KL : Aside0 (Kd.C k63 wc La ls.length ls) := ⟨by obtain ⟨nd, e1⟩ := HW.out; rw [e1]; exact Kd.C_drewN HL.out nd⟩
    by_cases hp : r ≤ (rd_T63 ls (h : Int)).f1
    ·have hD : Aside0 (decide (r ≤ (rd_T63 ls (h : Int)).f1) = true) := ⟨decide_eq_true hp⟩
     have HPr := Aside0.mk hp
     clear hp
     go_wp2_with (go_at_call 49; refine (hi_calls h b2 b3 b r ls La Lc v1 v2 v3 v4 _ hhl.out K2.out K3.out KB.out KL.out).mono ?_; rw [hD.out]; rintro e w2 ⟨rfl, nd2, hw2⟩; have HW2 : Aside0 (∃ nd, w2 = w.drewN nd) := ⟨by obtain ⟨nd, e1⟩ := HW.out; exact ⟨nd + nd2, by rw [hw2, e1, World.drewN_drewN]⟩⟩; clear hw2)
     go_roundg (h - i + 1)
     case measure => have := HG.out; have := HH1.out; have := HH2.out; omega
     case rel => exact ⟨i, h, rfl, rfl, ⟨rfl⟩, ⟨by have := HH1.out; have := HH2.out; omega⟩, ⟨HM.out.1, fun m m1 m2 => Int.le_trans HPr.out (HR.out h m m1 m2)⟩, HW2⟩
    ·have hD : Aside0 (decide (r ≤ (rd_T63 ls (h : Int)).f1) = false) := ⟨decide_eq_false hp⟩
     have HPr := Aside0.mk hp
     clear hp
     go_wp2_with (go_at_call 49; refine (hi_calls h b2 b3 b r ls La Lc v1 v2 v3 v4 _ hhl.out K2.out K3.out KB.out KL.out).mono ?_; rw [hD.out]; rintro e w2 ⟨rfl, nd2, hw2⟩; have HW2 : Aside0 (∃ nd, w2 = w.drewN nd) := ⟨by obtain ⟨nd, e1⟩ := HW.out; exact ⟨nd + nd2, by rw [hw2, e1, World.drewN_drewN]⟩⟩; clear hw2)
     go_roundg (j - (h + 1) + 1)
     case measure => have := HG.out; have := HH1.out; have := HH2.out; omega
     case rel => exact ⟨h + 1, j, by go_num, rfl, ⟨rfl⟩, ⟨by have := HH1.out; have := HH2.out; omega⟩, ⟨fun m m1 => by have := HR.out m h (by omega) hhl.out; have := HPr.out; omega, HM.out.2⟩, HW2⟩
  ·have hje : i = j := by omega
   subst hje
   go_wp2_with fail
   go_ret
   exact ⟨i, rfl, ⟨hij.2, HM.out.1, HM.out.2⟩, HW.out⟩
end Go.Proofs.Ytoefjhdcipgacaa.Hy
end
section
namespace Go.Proofs.Ytoefjhdcipgacaa.Hy
open Go.RowKit Go.Proofs.YtoefjhdcipgacaaW.PrintWords Go.Proofs.YtoefjhdcipgacaaW.PrintLast Go.Proofs.YtoefjhdcipgacaaW.PrintMore
open Go.Proofs.Ytoefjhdcipgacaa.PA
attribute [local go_sem] max2_int min2_int max_two min_two
def LsOk (ls : List S63) : Prop := ls.length ≤ 256 ∧ (∀ i : Nat, i < ls.length → 0 ≤ (rd_T63 ls (i : Int)).f0 ∧ (rd_T63 ls (i : Int)).f0 ≤ (rd_T63 ls (i : Int)).f1 ∧ (rd_T63 ls (i : Int)).f1 ≤ 1114111 ∧ 0 ≤ (rd_T63 ls (i : Int)).f2 ∧ (rd_T63 ls (i : Int)).f2 + (rd_T63 ls (i : Int)).f1 - (rd_T63 ls (i : Int)).f0 ≤ 1114111) ∧
 ∀ i j : Nat, i < j → j < ls.length → (rd_T63 ls (i : Int)).f1 < (rd_T63 ls (j : Int)).f0
theorem LsOk.rise {ls : List S63} (h : LsOk ls) : Rise ls := by
 intro i j hij hj
 rcases Nat.lt_or_ge i j with h1 | h1
 ·have := h.2.2 i j h1 hj
  have := (h.2.1 j hj).2.1
  omega
 ·rw [show i = j by omega]; exact Int.le_refl _
theorem rd63 {ls : List S63} {i : Nat} (h : i < ls.length) : rd_T63 ls (i : Int) = ls[i] := by simp [rd_T63, List.getD_eq_getElem?_getD, List.getElem?_eq_getElem h]
def letOf (ls : List S63) (r : Int) : Int × Bool := match ls.find? fun x => decide (x.f0 ≤ r ∧ r ≤ x.f1) with
 | some x => (x.f2 + r - x.f0, true)
 | none => (0, false)
theorem letOf_some {ls : List S63} {r : Int} {i : Nat} (h : i < ls.length) (h1 : (rd_T63 ls (i : Int)).f0 ≤ r) (hc : Cut ls r i) : letOf ls r = ((rd_T63 ls (i : Int)).f2 + r - (rd_T63 ls (i : Int)).f0, true) := by
 have : ls.find? (fun x => decide (x.f0 ≤ r ∧ r ≤ x.f1)) = some (rd_T63 ls (i : Int)) := by
  rw [List.find?_eq_some_iff_append]
  refine ⟨by simpa using ⟨h1, hc.2.2 i (Nat.le_refl _) h⟩, ls.take i, ls.drop (i + 1), ?_, fun p hp => ?_⟩
  ·rw [rd63 h, List.getElem_cons_drop, List.take_append_drop]
  ·obtain ⟨m, hm, rfl⟩ := List.getElem_of_mem hp
   rw [List.length_take] at hm
   have := hc.2.1 m (by omega)
   rw [rd63 (show m < ls.length by omega)] at this
   rw [List.getElem_take]
   simp only [Bool.not_eq_true', decide_eq_false_iff_not]
   omega
 rw [letOf, this]
theorem letOf_none {ls : List S63} {r : Int} {i : Nat} (hok : LsOk ls) (hc : Cut ls r i) (h : i < ls.length → r < (rd_T63 ls (i : Int)).f0) : letOf ls r = (0, false) := by
 have : ls.find? (fun x => decide (x.f0 ≤ r ∧ r ≤ x.f1)) = none := by
  rw [List.find?_eq_none]
  intro p hp
  obtain ⟨m, hm, rfl⟩ := List.getElem_of_mem hp
  rw [← rd63 hm]
  simp only [decide_eq_true_eq]
  rintro ⟨a1, a2⟩
  rcases Nat.lt_or_ge m i with h1 | h1
  ·have := hc.2.1 m h1; omega
  ·have hi := h (by omega)
   rcases Nat.lt_or_ge i m with h2 | h2
   ·have := hok.2.2 i m h2 hm
    have := (hok.2.1 i (by omega)).2.1
    omega
   ·rw [show m = i by omega] at a1; omega
 rw [letOf, this]
set_option maxHeartbeats 8000000 in
set_option maxRecDepth 100000 in
theorem letter_calls (b : Nat) (ls : List S63) (T : Tr.TM) (Ws : List S39) (left right : Int) (La : Option Addr) (Lc bt base : Nat) (Wa : Option Addr) (Wc : Nat) (r : Int) (w : World) (hH : HyphAt w b ls T Ws left right La Lc bt base Wa Wc) (hok : LsOk ls) :
  Calls Try.prog 39 #[.pointer (some ⟨b, 0, none⟩), .int .i32 r] w fun e w' => e = .returned (.tuple #[.int .i32 (letOf ls r).1, .bool (letOf ls r).2]) ∧ Below w.heap.size w w' := by
 have HH := Aside0.mk hH
 have HK := Aside0.mk hok
 clear hH hok
 go_enter Try.func39, Try.ntmps39
 go_upto_region 4 with (first
  | ((with_reducible refine gate_dst (N := 2) rfl ?_); refine box_event ?hg (N := 2) ?hd (cs := #[.pointer (some ⟨b, 0, none⟩)]) (t := 43) ?hr ?_; (case hd => rfl); (case hg => rfl); (case hr => first | (go_simp; done) | (go_simp; rfl)); intro g2 hg w1 hbox hb; have HB := Aside0.mk hb; have BK2 := Aside0.mk hbox; clear hb hbox hg)
  | ((with_reducible refine gate_dst (N := 3) rfl ?_); refine box_event ?hg (N := 3) ?hd (cs := #[.int .i32 r]) (t := 21) ?hr ?_; (case hd => rfl); (case hg => rfl); (case hr => first | (go_simp; done) | (go_simp; rfl)); intro g3 hg w2 hbox hb; replace BK2 := Aside0.mk (blk_below BK2.out hb); have BK3 := Aside0.mk hbox; replace HB := Aside0.mk (below_step HB.out hb); have q2 : w2.cell? ⟨g2, 0, none⟩ = some (.pointer (some ⟨b, 0, none⟩)) := (blk_cell BK2.out 0).trans rfl; have q3 : w2.cell? ⟨b, 0, none⟩ = some (.slice La ls.length Lc) := (blk_cell (HH.out.below HB.out).blk 0).trans rfl; clear hb hbox hg)
  | (go_at_call 48; refine (search_calls g2 g3 b r ls La Lc _ _ _ _ _ BK2.out BK3.out (HH.out.below HB.out).blk (HH.out.below HB.out).lets HK.out.rise (by have := HK.out.1; omega)).mono ?_; rintro e w3 ⟨i, rfl, hcut, nd, hw3⟩; have HC := Aside0.mk hcut; have hb : Below w2.heap.size w2 w3 := (by rw [hw3]; exact pw_below_drewN (Below.refl _ _) _); replace BK2 := Aside0.mk (blk_below BK2.out hb); replace BK3 := Aside0.mk (blk_below BK3.out hb); replace HB := Aside0.mk (below_step HB.out hb); clear hb hcut hw3 q2 q3))
 have q2 : w3.cell? ⟨g2, 0, none⟩ = some (.pointer (some ⟨b, 0, none⟩)) := (blk_cell BK2.out 0).trans rfl
 have q4 : w3.cell? ⟨g3, 0, none⟩ = some (.int .i32 r) := (blk_cell BK3.out 0).trans rfl
 have hL := Aside0.mk (HH.out.below HB.out).lets
 have q3 : w3.cell? ⟨b, 0, none⟩ = some (.slice La ls.length Lc) := (blk_cell (HH.out.below HB.out).blk 0).trans rfl
 have hle := HC.out.1
 have hl8 := HK.out.1
 by_cases hi : i < ls.length
 ·obtain ⟨ad, e1, hx0, hx1, hx2⟩ := at_T63 hL.out (i : Int) (by omega) (by omega)
  subst e1
  rw [Int.toNat_natCast] at hx0 hx1 hx2
  obtain ⟨p, hp⟩ : ∃ p, p = rd_T63 ls (i : Int) := ⟨_, rfl⟩
  have hpk := HK.out.2.1 i hi
  have hpc := HC.out.2.2 i (Nat.le_refl _) hi
  rw [← hp] at hx0 hx1 hx2 hpk hpc
  have HPe := Aside0.mk hp
  have p1 : (0 : Int) ≤ (i : Int) := by omega
  have q1 : (i : Int) < (ls.length : Int) := by omega
  have hne : ¬ (i : Int) = (ls.length : Int) := by omega
  have hne1 : ((i : Int) == (ls.length : Int)) = false := by simpa using hne
  have hne2 : ¬ i = ls.length := by omega
  have hne3 : (i == ls.length) = false := by simpa using hne2
  have HI := Aside0.mk hi
  by_cases hlo : r < p.f0
  ·have hgt : p.f0 > r := hlo
   have hgd : decide (r < p.f0) = true := decide_eq_true hlo
   have hres : letOf ls r = (0, false) := letOf_none HK.out HC.out (fun _ => by rw [← hp]; exact hlo)
   have HRS := Aside0.mk hres
   clear hp hi hres hpk hpc
   go_region
   all_goals go_wp2_with fail
   all_goals go_ret2
   all_goals exact ⟨by rw [HRS.out]; rfl, below_drew HB.out⟩
  ·have hgd : decide (r < p.f0) = false := decide_eq_false hlo
   have hres : letOf ls r = (p.f2 + r - p.f0, true) := by rw [hp]; exact letOf_some hi (by rw [← hp]; omega) HC.out
   have HRS := Aside0.mk hres
   clear hp hi hres
   go_cut [34] (fun v34 wc => v34 = .bool false ∧ wc = w3.drew)
   case first =>
    go_region
    all_goals go_wp2_with fail
    all_goals go_meet
    all_goals exact ⟨rfl, rfl⟩
   case rest =>
    obtain ⟨rfl, rfl⟩ := hcut
    go_upto_region 6 with fail
    go_region
    all_goals go_wp2_with fail
    all_goals go_ret2
    all_goals exact ⟨by rw [HRS.out]; rfl, below_drew (below_drew HB.out)⟩
 ·have hie : i = ls.length := by omega
  have hres : letOf ls r = (0, false) := letOf_none HK.out HC.out (fun h => absurd h hi)
  have HRS := Aside0.mk hres
  subst hie
  clear hi hres
  go_region
  all_goals go_wp2_with fail
  all_goals go_ret2
  all_goals exact ⟨by rw [HRS.out]; rfl, below_drew HB.out⟩
end Go.Proofs.Ytoefjhdcipgacaa.Hy
end
section
namespace Go.Proofs.Ytoefjhdcipgacaa.Hy
open Go.RowKit Go.Proofs.YtoefjhdcipgacaaW.PrintWords Go.Proofs.YtoefjhdcipgacaaW.PrintLast Go.Proofs.YtoefjhdcipgacaaW.PrintMore
open Go.Proofs.Ytoefjhdcipgacaa.PA
attribute [local go_sem] max2_int min2_int max_two min_two
set_option linter.unusedVariables false
def wlast : List S39 → List Int → List Int → List Int
 | [], V, _ => V
 | p :: t, V, word => wlast t (if p.f0 = word then p.f1 else V) word
theorem wlast_length (word : List Int) (Ws : List S39) : ∀ V : List Int, V.length = word.length + 1 → (∀ p ∈ Ws, p.f1.length = p.f0.length + 1) → (wlast Ws V word).length = word.length + 1 := by
 induction Ws with
 | nil => intro V hV _; exact hV
 | cons p t ih =>
  intro V hV h
  rw [wlast]
  refine ih _ ?_ (fun q hq => h q (List.mem_cons_of_mem _ hq))
  split
  ·rename_i he; rw [h p (List.mem_cons_self ..), he]
  ·exact hV
theorem upto_zero (V : List Int) (n : Nat) (left right : Int) : Upto V n left right 0 (List.replicate (n + 1) false) := by
 refine ⟨List.length_replicate, fun j hj => ?_⟩
 rw [List.getD_eq_getElem?_getD, List.getElem?_replicate, if_pos hj, Option.getD_some, decide_eq_false (by omega), Bool.false_and]
theorem upto_put {V : List Int} {n : Nat} {left right : Int} {i : Nat} {bs : List Bool} (h : Upto V n left right (i : Int) bs) (hi : i ≤ n) (b : Bool) (hb : b = ptAt V n left right i) : Upto V n left right ((i + 1 : Nat) : Int) (bs.set i b) := by
 refine ⟨by rw [List.length_set]; exact h.1, fun j hj => ?_⟩
 rw [List.getD_eq_getElem?_getD, List.getElem?_set]
 by_cases e : i = j
 ·subst e
  rw [if_pos rfl, if_pos (by rw [h.1]; exact hj), Option.getD_some, hb, decide_eq_true (by omega), Bool.true_and]
 ·rw [if_neg e, ← List.getD_eq_getElem?_getD, h.2 j hj]
  congr 1
  exact decide_eq_decide.2 (by omega)
theorem upto_all {V : List Int} {n : Nat} {left right : Int} {bs : List Bool} {i : Nat} (h : Upto V n left right (i : Int) bs) (hi : n + 1 ≤ i) : bs = pts V n left right := by
 apply List.ext_getElem (by rw [h.1, pts_length])
 intro j h1 h2
 have hj : j < n + 1 := by rw [h.1] at h1; exact h1
 have a := h.2 j hj
 rw [List.getD_eq_getElem?_getD, List.getElem?_eq_getElem h1, Option.getD_some, decide_eq_true (by omega), Bool.true_and] at a
 have b := pts_getD V n left right j hj
 rw [List.getD_eq_getElem?_getD, List.getElem?_eq_getElem h2, Option.getD_some] at b
 rw [a, b]
theorem getD39 {Ws : List S39} {i : Nat} (hi : i < Ws.length) : Ws.drop i = rd_T39 Ws (i : Int) :: Ws.drop (i + 1) := by
 rw [List.drop_eq_getElem_cons hi, rd_T39, Int.toNat_natCast, List.getD_eq_getElem?_getD, List.getElem?_eq_getElem hi, Option.getD_some]
set_option maxHeartbeats 8000000 in
set_option maxRecDepth 100000 in
theorem rword_calls (Ap : Option Addr) (cp : Nat) (P : List S39) (Aw : Option Addr) (cw : Nat) (Ws : List S39) (Al : Option Addr) (cl : Nat) (ls : List S63) (left right : Int) (A : Option Addr) (c : Nat) (word : List Int) (V0 : List Int) (w : World)
  (hp : Kd.C k39 w Ap P.length P) (hpc : P.length ≤ cp) (ht : Kd.C k39 w Aw Ws.length Ws) (htc : Ws.length ≤ cw) (hw : Kd.C (Kd.int .i32) w A word.length word) (hwc : word.length ≤ c) (hn : word.length ≤ 1000) (hV : stanzaref07_Values.f 0 P word = some V0) (hVl : V0.length = word.length + 1) (hq : ∀ p ∈ Ws, p.f1.length = p.f0.length + 1) :
  Calls Try.prog 37 #[.agg #[.slice Ap P.length cp, .slice Aw Ws.length cw, .slice Al ls.length cl, .int .i64 left, .int .i64 right], .slice A word.length c] w fun e w' => ∃ v, e = .returned v ∧ Kd.R Kd.bool 4 w' w.heap.size (fun _ => True) v (pts (wlast Ws V0 word) word.length left right) ∧ Below w.heap.size w w' := by
 have HP := Aside0.mk hp
 have HPc := Aside0.mk hpc
 have HT := Aside0.mk ht
 have HTc := Aside0.mk htc
 have HTM := Aside0.mk (Kd.C_max ht)
 have HW := Aside0.mk hw
 have HWc := Aside0.mk hwc
 have HV := Aside0.mk hV
 have HVL := Aside0.mk hVl
 have HQ := Aside0.mk hq
 clear hp hpc ht htc hw hwc hV hVl hq
 go_enter Try.func37, Try.ntmps37
 go_upto_block 0 with (first
  | ((with_reducible refine gate_dst (N := 2) rfl ?_); refine box_event ?hg (N := 2) ?hd (cs := #[.slice Ap P.length cp, .slice Aw Ws.length cw, .slice Al ls.length cl, .int .i64 left, .int .i64 right]) (t := 52) ?hr ?_; (case hd => rfl); (case hg => rfl); (case hr => first | (go_simp; done) | (go_simp; rfl)); intro g2 hg w1 hbox hb; have HB := Aside0.mk hb; have BK2 := Aside0.mk hbox; have q0 : w1.cell? ⟨g2, 0, none⟩ = some (.slice Ap P.length cp) := (blk_cell hbox 0).trans rfl; clear hb hbox hg)
  | (go_at_call 21; refine (stanzaref07_Values.calls 0 Ap cp P A c word V0 _ (Kd.C_below HP.out HB.out) HPc.out (Kd.C_below HW.out HB.out) HWc.out HV.out).mono ?_; rintro e w2 ⟨v, rfl, hr, hb⟩; obtain ⟨A5, c5, hv_, hl_, hc_⟩ := Kd.R_reads hr; subst hv_; have HVc := Aside0.mk hc_; replace BK2 := Aside0.mk (blk_below BK2.out hb); replace HB := Aside0.mk (below_step HB.out hb); clear hb hr hl_ hc_ q0))
 go_cut [5, 6] (fun v5 v6 wc => ∃ (V : List Int) (A5 : Option Addr) (c5 : Nat), v5 = .slice A5 V.length c5 ∧ Aside0 (Kd.C (Kd.int .u8) wc A5 V.length V) ∧ Aside0 (V = wlast Ws V0 word) ∧ Aside0 (wc.heap[g2]? = some (.cells #[.slice Ap P.length cp, .slice Aw Ws.length cw, .slice Al ls.length cl, .int .i64 left, .int .i64 right] 52 (0, 0))) ∧ Aside0 (Below w.heap.size w wc))
 case first =>
  obtain ⟨g0, hg0⟩ : ∃ g0 : Nat, g0 = Ws.length + 1 := ⟨_, rfl⟩
  have HG0 := Aside0.mk hg0
  clear hg0
  go_wp2_with fail
  go_loopg [5, 6] g0 (fun g v5 v6 w' => ∃ (j : Nat) (V : List Int) (A5 : Option Addr) (c5 : Nat), v6 = .int .i64 (j : Int) ∧ v5 = .slice A5 V.length c5 ∧ Aside0 (Kd.C (Kd.int .u8) w' A5 V.length V) ∧ Aside0 (wlast (Ws.drop j) V word = wlast Ws V0 word) ∧ Aside0 (j ≤ Ws.length) ∧ Aside0 (g + j = Ws.length + 1) ∧ Aside0 (w'.heap[g2]? = some (.cells #[.slice Ap P.length cp, .slice Aw Ws.length cw, .slice Al ls.length cl, .int .i64 left, .int .i64 right] 52 (0, 0))) ∧ Aside0 (Below w.heap.size w w'))
  case atStart => exact ⟨0, V0, A5, c5, rfl, rfl, HVc, ⟨rfl⟩, ⟨Nat.zero_le _⟩, ⟨by have := HG0.out; omega⟩, BK2, HB⟩
  case round =>
   clear HVc HG0 BK2 HB
   obtain ⟨j, V, A5, c5, rfl, rfl, HVr, HLr, HJr, HGr, BKr, HBr⟩ := hrel
   rename World => wr
   have q1 : wr.cell? ⟨g2, 1, none⟩ = some (.slice Aw Ws.length cw) := (blk_cell BKr.out 1).trans rfl
   by_cases hj : (j : Int) < (Ws.length : Int)
   ·have hjl : j < Ws.length := by omega
    obtain ⟨p, hp⟩ : ∃ p, p = rd_T39 Ws (j : Int) := ⟨_, rfl⟩
    have HDR : Aside0 (Ws.drop j = p :: Ws.drop (j + 1)) := ⟨by rw [hp]; exact getD39 hjl⟩
    obtain ⟨ad, A3, c3, A4, c4, e1, x0, x1, l0, hC3, l1, hC4⟩ := at_T39 (Kd.C_below HT.out HBr.out) (j : Int) (by omega) (by omega)
    subst e1
    rw [← hp] at x0 x1 l0 hC3 l1 hC4
    rw [Int.toNat_natCast] at x0 x1
    have H3 := Aside0.mk hC3
    have H3l := Aside0.mk l0
    have H4 := Aside0.mk hC4
    have pj : (0 : Int) ≤ (j : Int) := by omega
    have HM := HTM.out
    have HB0 := HBr
    clear hp l0 hC3 l1 hC4
    by_cases hm : p.f0 = word
    ·have HMM := Aside0.mk hm
     have hmd : decide (p.f0 = word) = true := decide_eq_true hm
     clear hm
     go_wp2_with (go_at_call 38; refine (Lf.same_calls A3 c3 p.f0 A c word _ H3.out H3l.out (Kd.C_below HW.out HBr.out) HWc.out).mono ?_; rintro e wq ⟨rfl, nd, hwq⟩; rw [hmd]; have hb : Below wr.heap.size wr wq := (by rw [hwq]; exact pw_below_drewN (Below.refl _ _) _); replace BKr := Aside0.mk (blk_below BKr.out hb); replace H4 := Aside0.mk (Kd.C_below H4.out hb); replace HBr := Aside0.mk (below_step HBr.out hb); have y1 : wq.cell? ⟨g2, 1, none⟩ = some (.slice (some ad) Ws.length cw) := (blk_cell BKr.out 1).trans rfl; have y2 := (hb.cell (World.block_lt_of_cell? wr _ x1)).trans x1; clear hb hwq)
     go_roundg (gk - 1)
     case measure => have := HGr.out; omega
     case rel => exact ⟨j + 1, p.f1, A4, c4, by go_num, rfl, H4, ⟨by rw [← HLr.out, HDR.out, wlast, if_pos HMM.out]⟩, ⟨by omega⟩, ⟨by have := HGr.out; omega⟩, BKr, HBr⟩
    ·have HMM := Aside0.mk hm
     have hmd : decide (p.f0 = word) = false := decide_eq_false hm
     clear hm
     go_wp2_with (go_at_call 38; refine (Lf.same_calls A3 c3 p.f0 A c word _ H3.out H3l.out (Kd.C_below HW.out HBr.out) HWc.out).mono ?_; rintro e wq ⟨rfl, nd, hwq⟩; rw [hmd]; have hb : Below wr.heap.size wr wq := (by rw [hwq]; exact pw_below_drewN (Below.refl _ _) _); replace BKr := Aside0.mk (blk_below BKr.out hb); replace HVr := Aside0.mk (Kd.C_below HVr.out hb); replace HBr := Aside0.mk (below_step HBr.out hb); clear hb hwq)
     go_roundg (gk - 1)
     case measure => have := HGr.out; omega
     case rel => exact ⟨j + 1, V, A5, c5, by go_num, rfl, HVr, ⟨by rw [← HLr.out, HDR.out, wlast, if_neg HMM.out]⟩, ⟨by omega⟩, ⟨by have := HGr.out; omega⟩, BKr, HBr⟩
   ·go_wp2_with fail
    go_meet
    case rel => exact ⟨V, A5, c5, rfl, HVr, ⟨by rw [← HLr.out, List.drop_eq_nil_of_le (by omega)]; rfl⟩, BKr, HBr⟩
 case rest =>
  clear HVc BK2 HB
  obtain ⟨V, A5, c5, rfl, HVc, HVE, BK2, HB⟩ := hcut
  rename World => wz
  have HBz := HB
  have HVN : Aside0 (V.length = word.length + 1) := ⟨by rw [HVE.out]; exact wlast_length word Ws V0 HVL.out HQ.out⟩
  go_upto_block 2 with ((with_reducible refine gate_dst (N := 41) rfl ?_); refine Kd.R_make Kd.bool _ 4 rfl (N := 41) rfl 58 _ _ rfl ((word.length : Int) + 1) rfl rfl Try.underlying58 (.bool false) 1 info4 rfl (by decide) (by omega) false (ok := fun _ => True) (okp := fun _ => True) rfl (fun _ hk => hk) trivial (by omega) (by omega) HB.out (below_size HB.out) ?_; intro v41 w41 ho hb hg_ hnew_; have HNW := Aside0.mk hnew_; clear hnew_; have hbg := below_none hg_; clear hg_; replace BK2 := Aside0.mk (blk_below BK2.out hbg); have HB4 := Aside0.mk hbg; rw [show ((word.length : Int) + 1).toNat = word.length + 1 by omega] at ho; generalize hbs : List.replicate (word.length + 1) false = bs at ho; have HBS := Aside0.mk hbs; have HO := Aside0.mk ho; replace HB := Aside0.mk hb; obtain ⟨Ao, co, rfl⟩ := Kd.R_slice ho; clear ho hb hbs hbg)
  obtain ⟨go, co', e1, hge, hlt, cells, hcells⟩ := Kd.R_form HO.out (by rw [← HBS.out, List.length_replicate]; omega)
  injection e1 with e1 _ e2
  subst e1
  subst e2
  have HNE := Aside0.mk (show go ≠ g2 from fun e => blk_ne BK2.out hcells (by decide) e.symm)
  have HBL : Aside0 (bs.length = word.length + 1) := ⟨by rw [← HBS.out, List.length_replicate]⟩
  have HUP : Aside0 (Upto V word.length left right ((0 : Nat) : Int) bs) := ⟨by rw [← HBS.out]; exact upto_zero V word.length left right⟩
  have HGO : Aside0 (wz.heap.size ≤ go) := ⟨by obtain ⟨b_, hb1, hb2⟩ := HNW.out; cases hb1; exact hb2⟩
  have HGW := Aside0.mk hge
  clear hge hlt hcells
  obtain ⟨g0, hg0⟩ : ∃ g0 : Nat, g0 = bs.length + 1 := ⟨_, rfl⟩
  have HG0 := Aside0.mk hg0
  clear hg0
  go_wp2_with fail
  go_loopg [8] g0 (fun g v8 w' => ∃ (i : Nat) (bs2 : List Bool), v8 = .int .i64 (i : Int) ∧ Aside0 (Kd.R Kd.bool 4 w' w.heap.size (fun _ => True) (.slice (some ⟨go, 0, none⟩) bs.length co) bs2) ∧ Aside0 (Upto V word.length left right (i : Int) bs2) ∧ Aside0 (g + i = bs.length + 1) ∧ Aside0 (i ≤ bs.length) ∧ Aside0 (w'.heap[g2]? = some (.cells #[.slice Ap P.length cp, .slice Aw Ws.length cw, .slice Al ls.length cl, .int .i64 left, .int .i64 right] 52 (0, 0))) ∧ Aside0 (Below wz.heap.size wz w'))
  case atStart => exact ⟨0, bs, rfl, HO, HUP, ⟨by have := HG0.out; omega⟩, ⟨Nat.zero_le _⟩, BK2, HB4⟩
  case round =>
   clear HO HUP HG0 BK2 HB4 HB HBS HNW
   obtain ⟨i, bs2, rfl, HOr, HUr, HGr, HIr, BKr, HB4⟩ := hrel
   rename World => wr
   by_cases hi : (i : Int) < (bs.length : Int)
   case neg =>
    have hE : bs2 = pts V word.length left right := upto_all HUr.out (by have := HBL.out; omega)
    have HE := Aside0.mk hE
    clear hE
    go_wp2_with fail
    go_ret
    exact ⟨_, rfl, by rw [← HVE.out, ← HE.out]; exact HOr.out, below_step HBz.out HB4.out⟩
   case pos =>
    have pi0 : (0 : Int) ≤ (i : Int) := by omega
    have hiM : (i : Int) ≤ 1000 := by have := HBL.out; omega
    have hiV : (i : Int) < (V.length : Int) := by have := HBL.out; have := HVN.out; omega
    have q3 : wr.cell? ⟨g2, 3, none⟩ = some (.int .i64 left) := (blk_cell BKr.out 3).trans rfl
    have q4 : wr.cell? ⟨g2, 4, none⟩ = some (.int .i64 right) := (blk_cell BKr.out 4).trans rfl
    obtain ⟨qo, qf⟩ := Kd.R_celln false HOr.out (i : Int) pi0 hi
    rw [Int.toNat_natCast] at qo qf
    obtain ⟨ad, e1, qv⟩ := Kd.at_int (Kd.C_below HVc.out HB4.out) (i : Int) pi0 hiV
    subst e1
    rw [Int.toNat_natCast] at qv
    by_cases h1 : left ≤ (i : Int)
    case neg =>
     have H1 := Aside0.mk h1
     have HPG : Aside0 (Kd.R Kd.bool 4 (wr.setCell ⟨go, i, none⟩ (.bool (false))) w.heap.size (fun _ => True) (.slice (some ⟨go, 0, none⟩) bs.length co) (bs2.set i (false))) := ⟨by have := (Kd.R_putg HOr.out (i : Int) (false)).1; rw [Int.toNat_natCast] at this; exact this⟩
     have HBV : Aside0 ((false) = ptAt V word.length left right i) := ⟨by unfold ptAt; rw [decide_eq_false H1.out, Bool.false_and]⟩
     go_wp2_with fail
     go_roundg (gk - 1)
     case measure => have := HGr.out; omega
     case rel => exact ⟨i + 1, _, by go_num, HPG, ⟨upto_put HUr.out (by have := HBL.out; omega) _ HBV.out⟩, ⟨by have := HGr.out; omega⟩, ⟨by have := HBL.out; omega⟩, ⟨blk_far BKr.out (Ne.symm HNE.out) _⟩, ⟨below_set HB4.out HGO.out⟩⟩
    case pos =>
     have H1 := Aside0.mk h1
     by_cases h2 : right ≤ (word.length : Int) - (i : Int)
     ·have H2 := Aside0.mk h2
      have HPG : Aside0 (Kd.R Kd.bool 4 (wr.setCell ⟨go, i, none⟩ (.bool (Int.tmod (rd V (i : Int)) 2 == 1))) w.heap.size (fun _ => True) (.slice (some ⟨go, 0, none⟩) bs.length co) (bs2.set i (Int.tmod (rd V (i : Int)) 2 == 1))) := ⟨by have := (Kd.R_putg HOr.out (i : Int) (Int.tmod (rd V (i : Int)) 2 == 1)).1; rw [Int.toNat_natCast] at this; exact this⟩
      have HBV : Aside0 ((Int.tmod (rd V (i : Int)) 2 == 1) = ptAt V word.length left right i) := ⟨by unfold ptAt; rw [decide_eq_true H1.out, decide_eq_true (show (i : Int) + right ≤ (word.length : Int) by have := H2.out; omega), Bool.true_and, Bool.true_and]⟩
      go_wp2_with fail
      go_roundg (gk - 1)
      case measure => have := HGr.out; omega
      case rel => exact ⟨i + 1, _, by go_num, HPG, ⟨upto_put HUr.out (by have := HBL.out; omega) _ HBV.out⟩, ⟨by have := HGr.out; omega⟩, ⟨by have := HBL.out; omega⟩, ⟨blk_far BKr.out (Ne.symm HNE.out) _⟩, ⟨below_set HB4.out HGO.out⟩⟩
     ·have H2 := Aside0.mk h2
      have HPG : Aside0 (Kd.R Kd.bool 4 (wr.setCell ⟨go, i, none⟩ (.bool (false))) w.heap.size (fun _ => True) (.slice (some ⟨go, 0, none⟩) bs.length co) (bs2.set i (false))) := ⟨by have := (Kd.R_putg HOr.out (i : Int) (false)).1; rw [Int.toNat_natCast] at this; exact this⟩
      have HBV : Aside0 ((false) = ptAt V word.length left right i) := ⟨by unfold ptAt; rw [decide_eq_false (show ¬ (i : Int) + right ≤ (word.length : Int) by have := H2.out; omega), Bool.false_and, Bool.and_false]⟩
      go_wp2_with fail
      go_roundg (gk - 1)
      case measure => have := HGr.out; omega
      case rel => exact ⟨i + 1, _, by go_num, HPG, ⟨upto_put HUr.out (by have := HBL.out; omega) _ HBV.out⟩, ⟨by have := HGr.out; omega⟩, ⟨by have := HBL.out; omega⟩, ⟨blk_far BKr.out (Ne.symm HNE.out) _⟩, ⟨below_set HB4.out HGO.out⟩⟩
end Go.Proofs.Ytoefjhdcipgacaa.Hy
namespace Go.Proofs.Ytoefjhdcipgacaa.PA
open Go.RowKit Go.Proofs.YtoefjhdcipgacaaW.PrintWords Go.Proofs.YtoefjhdcipgacaaW.PrintLast Go.Proofs.YtoefjhdcipgacaaW.PrintMore
open Go.Proofs.Ytoefjhdcipgacaa.Tr (refVals pq)
def wfits (P Ws : List S39) (word : List Int) : Bool := fitsB P word && (decide (word.length ≤ 1000) && Ws.all (fun p => decide (p.f1.length = p.f0.length + 1)))
def stanzaref07_Hyphens_Word.f (_k : Nat) (P Ws : List S39) (_ls : List S63) (left right : Int) (word : List Int) : Option (List Bool) := if wfits P Ws word = true then some (Hy.pts (Hy.wlast Ws (refVals (P.map pq) word) word) word.length left right) else none
theorem stanzaref07_Hyphens_Word.calls (k : Nat) (Ap : Option Addr) (cp : Nat) (P : List S39) (Q : Nat → Prop) (Aw : Option Addr) (cw : Nat) (Ws : List S39) (Al : Option Addr) (cl : Nat) (ls : List S63) (left right : Int) (A : Option Addr) (c : Nat) (word : List Int) (r : List Bool) (w : World)
  (hp : Kd.C k39 w Ap P.length P) (hpc : P.length ≤ cp) (ht : Kd.V k39 39 w w.heap.size (fun k_ => Q k_) (.slice Aw Ws.length cw) Ws) (_ : Kd.C k63 w Al ls.length ls) (_ : ls.length ≤ cl) (hw : Kd.C (Kd.int .i32) w A word.length word) (hwc : word.length ≤ c) (h : stanzaref07_Hyphens_Word.f k P Ws ls left right word = some r) :
  Calls Try.prog 37 #[.agg #[.slice Ap P.length cp, .slice Aw Ws.length cw, .slice Al ls.length cl, .int .i64 left, .int .i64 right], .slice A word.length c] w fun e w' => ∃ v0_ : Value, e = .returned (v0_) ∧ Kd.R Kd.bool 4 w' w.heap.size (fun k_ => (w.heap.size ≤ k_)) v0_ r ∧ Below w.heap.size w w' := by
 unfold stanzaref07_Hyphens_Word.f at h
 by_cases hf : wfits P Ws word = true
 ·rw [if_pos hf] at h
  injection h with h
  subst h
  rw [wfits, Bool.and_eq_true, Bool.and_eq_true, decide_eq_true_eq, List.all_eq_true] at hf
  refine (Hy.rword_calls Ap cp P Aw cw Ws Al cl ls left right A c word _ w hp hpc (Kd.V_reads' ht).2.2 (Kd.V_reads' ht).2.1 hw hwc hf.2.1 (by rw [stanzaref07_Values.f, if_pos hf.1]) (by rw [Go.Proofs.Ytoefjhdcipgacaa.Tr.refVals_length]) (fun p hp => of_decide_eq_true (hf.2.2 p hp))).mono ?_
  rintro e w' ⟨v, rfl, hr, hb⟩
  exact ⟨v, rfl, Kd.R_reok rfl hr (fun k_ hk => Kd.R_base hr k_ hk), hb⟩
 ·rw [if_neg hf] at h
  cases h
end Go.Proofs.Ytoefjhdcipgacaa.PA
end
section
namespace Go.Proofs.Ytoefjhdcipgacaa.Hy
open Go.RowKit Go.Proofs.YtoefjhdcipgacaaW.PrintWords Go.Proofs.YtoefjhdcipgacaaW.PrintLast Go.Proofs.YtoefjhdcipgacaaW.PrintMore
open Go.Proofs.Ytoefjhdcipgacaa.PA
def runOf (ls : List S63) : List S66 → List Int
 | [] => []
 | s :: t => if (letOf ls s.f0).2 = true then (letOf ls s.f0).1 :: runOf ls t else []
theorem runOf_le (ls : List S63) (l : List S66) : (runOf ls l).length ≤ l.length := by
 induction l with
 | nil => exact Nat.le_refl _
 | cons s t ih =>
  rw [runOf]
  split
  ·rw [List.length_cons, List.length_cons]; omega
  ·exact Nat.zero_le _
def pointsOf (ls : List S63) (P Ws : List S39) (left right : Int) : Nat → List S66 → List Bool
 | 0, _ => [false]
 | _ + 1, [] => [false]
 | f + 1, l => (pts (wordVals P Ws (runOf ls l)) (runOf ls l).length left right).take (runOf ls l).length ++ (if (runOf ls l).length < l.length then false :: pointsOf ls P Ws left right f (l.drop ((runOf ls l).length + 1)) else [false])
theorem pts_take (V : List Int) (n : Nat) (left right : Int) : ((pts V n left right).take n).length = n := by
 rw [List.length_take, pts_length]; omega
theorem pointsOf_end (ls : List S63) (P Ws : List S39) (left right : Int) (f : Nat) : pointsOf ls P Ws left right f [] = [false] := by
 cases f <;> rfl
theorem pointsOf_length (ls : List S63) (P Ws : List S39) (left right : Int) (f : Nat) : ∀ l : List S66, l.length ≤ f → (pointsOf ls P Ws left right f l).length = l.length + 1 := by
 induction f with
 | zero =>
  intro l hl
  have : l = [] := List.eq_nil_of_length_eq_zero (by omega)
  subst this
  rfl
 | succ f ih =>
  intro l hl
  cases l with
  | nil => rfl
  | cons s t =>
   have h := runOf_le ls (s :: t)
   rw [pointsOf, List.length_append, pts_take]
   ·by_cases hk : (runOf ls (s :: t)).length < (s :: t).length
    ·rw [if_pos hk, List.length_cons, ih _ (by rw [List.length_drop]; omega), List.length_drop]
     omega
    ·rw [if_neg hk, List.length_singleton]
     omega
   ·exact List.cons_ne_nil s t
end Go.Proofs.Ytoefjhdcipgacaa.Hy
end
section
namespace Go.Proofs.Ytoefjhdcipgacaa.Hy
open Go.RowKit Go.Proofs.YtoefjhdcipgacaaW.PrintWords Go.Proofs.YtoefjhdcipgacaaW.PrintLast Go.Proofs.YtoefjhdcipgacaaW.PrintMore
open Go.Proofs.Ytoefjhdcipgacaa.PA
attribute [local go_sem] max2_int min2_int max_two min_two
set_option linter.unusedVariables false
def PInv (ls : List S63) (P Ws : List S39) (left right : Int) (l : List S66) (i : Nat) (bs : List Bool) : Prop :=
 bs.length = l.length + 1 ∧ (∀ j, i ≤ j → bs.getD j false = false) ∧ ((i ≤ l.length ∧ ∀ f, l.length - i ≤ f → bs.take i ++ pointsOf ls P Ws left right f (l.drop i) = pointsOf ls P Ws left right l.length l) ∨ (i = l.length + 1 ∧ bs = pointsOf ls P Ws left right l.length l))
theorem points_fuel (ls : List S63) (P Ws : List S39) (left right : Int) (f : Nat) : ∀ (g : Nat) (l : List S66), l.length ≤ f → l.length ≤ g → pointsOf ls P Ws left right f l = pointsOf ls P Ws left right g l := by
 induction f with
 | zero =>
  intro g l hf _
  obtain rfl : l = [] := List.eq_nil_of_length_eq_zero (by omega)
  rw [pointsOf_end, pointsOf_end]
 | succ f ih =>
  intro g l hf hg
  cases l with
  | nil => rw [pointsOf_end, pointsOf_end]
  | cons s t =>
   obtain ⟨g, rfl⟩ : ∃ g', g = g' + 1 := ⟨g - 1, by rw [List.length_cons] at hg; omega⟩
   rw [pointsOf, pointsOf]
   ·rw [ih g _ (by rw [List.length_drop]; omega) (by rw [List.length_drop]; omega)]
   ·exact List.cons_ne_nil s t
   ·exact List.cons_ne_nil s t
theorem pinv_start {ls : List S63} {P Ws : List S39} {left right : Int} {l : List S66} {bs : List Bool} (h : List.replicate (l.length + 1) false = bs) : PInv ls P Ws left right l 0 bs := by
 subst h
 refine ⟨List.length_replicate, fun j _ => ?_, .inl ⟨Nat.zero_le _, fun f hf => ?_⟩⟩
 ·rw [List.getD_eq_getElem?_getD, List.getElem?_replicate]
  split <;> rfl
 ·rw [List.take_zero, List.nil_append, List.drop_zero]
  exact points_fuel _ _ _ _ _ _ _ _ (by omega) (Nat.le_refl _)
theorem rd66' {L : List S66} {i : Nat} (h : i < L.length) : rd_T66 L (i : Int) = L[i] := by simp [rd_T66, List.getD_eq_getElem?_getD, List.getElem?_eq_getElem h]
theorem pinv_end {ls : List S63} {P Ws : List S39} {left right : Int} {l : List S66} {i : Nat} {bs : List Bool} (h : PInv ls P Ws left right l i bs) (hi : l.length ≤ i) : bs = pointsOf ls P Ws left right l.length l := by
 obtain ⟨hl, hf, h1 | h1⟩ := h
 ·have := h1.2 l.length (by omega)
  rw [List.drop_eq_nil_of_le hi, pointsOf_end] at this
  have e : i = l.length := by omega
  subst e
  have hb : bs.drop l.length = [false] := by
   have hlen : (bs.drop l.length).length = 1 := by rw [List.length_drop]; omega
   obtain ⟨b, hb⟩ := List.length_eq_one_iff.1 hlen
   have h2 := hf l.length (Nat.le_refl _)
   rw [List.getD_eq_getElem?_getD, ← Nat.add_zero l.length, ← List.getElem?_drop, hb] at h2
   rw [hb]
   simpa using h2
  rw [← this, ← hb, List.take_append_drop]
 ·exact h1.2
theorem pinv_step {ls : List S63} {P Ws : List S39} {left right : Int} {l : List S66} {i m : Nat} {bs : List Bool} {word : List Int} (h : PInv ls P Ws left right l i bs) (hi : i < l.length) (hw : word = runOf ls (l.drop i)) (hm : m = word.length) : PInv ls P Ws left right l (i + m + 1) (bs.take i ++ (pts (wordVals P Ws word) word.length left right).take word.length ++ bs.drop (i + m)) := by
 obtain ⟨hl, hf, h1⟩ := h
 obtain ⟨_, h1⟩ := h1.resolve_right (fun h => by omega)
 have hmr : m ≤ (l.drop i).length := by rw [hm, hw]; exact runOf_le ls _
 rw [List.length_drop] at hmr
 obtain ⟨Y, hY⟩ : ∃ Y, Y = (pts (wordVals P Ws word) word.length left right).take word.length := ⟨_, rfl⟩
 have hYl : Y.length = m := by rw [hY, pts_take, hm]
 have him : i + m < bs.length := by omega
 have hfm : bs.drop (i + m) = false :: bs.drop (i + m + 1) := by
  rw [List.drop_eq_getElem_cons him]
  have := hf (i + m) (by omega)
  rw [List.getD_eq_getElem?_getD, List.getElem?_eq_getElem him, Option.getD_some] at this
  rw [this]
 have htl : (bs.take i).length = i := by rw [List.length_take]; omega
 have hne : l.drop i ≠ [] := fun h => by have := congrArg List.length h; rw [List.length_drop, List.length_nil] at this; omega
 have hp : ∀ f, pointsOf ls P Ws left right (f + 1) (l.drop i) = Y ++ (if m < l.length - i then false :: pointsOf ls P Ws left right f (l.drop (i + m + 1)) else [false]) := by
  intro f
  rw [pointsOf, ← hw, ← hm, List.length_drop, List.drop_drop, hY, hm, show i + (word.length + 1) = i + word.length + 1 by omega]
  exact hne
 rw [← hY]
 refine ⟨?_, ?_, ?_⟩
 ·simp only [List.length_append, htl, hYl, List.length_drop]; omega
 ·intro j hj
  rw [List.getD_eq_getElem?_getD, List.getElem?_append_right (by rw [List.length_append, htl, hYl]; omega), List.getElem?_drop, List.length_append, htl, hYl, ← List.getD_eq_getElem?_getD]
  exact hf _ (by omega)
 ·by_cases hc : m < l.length - i
  ·left
   refine ⟨by omega, fun f hf2 => ?_⟩
   have := h1 (l.length + 1) (by omega)
   rw [hp, if_pos hc, points_fuel ls P Ws left right l.length f (l.drop (i + m + 1)) (by rw [List.length_drop]; omega) (by rw [List.length_drop]; omega)] at this
   rw [← this, hfm, List.take_append, List.length_append, htl, hYl, List.take_of_length_le (l := bs.take i ++ Y) (by rw [List.length_append, htl, hYl]; omega), show i + m + 1 - (i + m) = 1 by omega]
   simp
  ·right
   have := h1 (l.length + 1) (by omega)
   rw [hp, if_neg hc] at this
   have hd : bs.drop (i + m + 1) = [] := List.drop_eq_nil_of_le (by omega)
   rw [← this, hfm, hd, List.append_assoc]
   exact ⟨by omega, rfl⟩
theorem after_word {w W0 wk : World} {go co i m : Nat} {bs bs2 : List Bool} {V : List Int} {left right : Int} {v : Value} (hr : Kd.R Kd.bool 4 wk W0.heap.size (fun _ => True) v (pts V m left right)) (hb : Below W0.heap.size W0 wk) (HO : Kd.R Kd.bool 4 W0 w.heap.size (fun _ => True) (.slice (some ⟨go, 0, none⟩) bs.length co) bs2) (HB : Below w.heap.size w W0) (hl : bs2.length = bs.length) (hi : i + m ≤ bs.length) (hge : w.heap.size ≤ go) :
  ∃ A6 c6 W', v = .slice A6 (m + 1) c6 ∧ (∀ W, (Instr.slice 58 (.slice A6 (m + 1) c6) none (some (.int .i64 (m : Int))) none).run Try.prog W = .ok (.slice A6 m c6) W) ∧ (Builtin.copy_ #[58, 58] 3 #[.slice (some ⟨go, i, none⟩) (bs.length - i) (co - i), .slice A6 m c6]).run Try.prog wk = .ok (goInt (m : Int)) W' ∧
   Kd.R Kd.bool 4 W' w.heap.size (fun _ => True) (.slice (some ⟨go, 0, none⟩) bs.length co) (bs2.take i ++ (pts V m left right).take m ++ bs2.drop (i + m)) ∧ Below w.heap.size w W' := by
 obtain ⟨A6, c6, rfl⟩ := Kd.R_slice hr
 have hpl := pts_length V m left right
 have hrd := Kd.R_reads' hr
 have hC := Kd.C_take hrd.2.2 (m := m) (by omega)
 rw [List.length_take, hpl, Nat.min_eq_left (by omega)] at hC
 have HO1 := Kd.R_below HO hb
 rw [← hl] at HO1
 obtain ⟨W', h1, h2, h3⟩ := copy_at (start := i) (c := c6) bs2 _ HO1 hC (by omega) 3
 obtain ⟨i4, h4⟩ : ∃ i4, Try.prog.info? 4 = some i4 := by
  have := info4
  cases h : Try.prog.info? 4 with
  | none => rw [h] at this; cases this
  | some x => exact ⟨x, rfl⟩
 have hcap : m + 1 ≤ c6 := by have := hrd.2.1; omega
 refine ⟨A6, c6, W', by rw [hpl], fun W => ?_, by rw [← hl]; exact h1, by rw [← hl]; exact h2, ?_⟩
 ·have := cut_to (P := Try.prog) 58 4 .i64 Try.underlying58 h4 A6 (m + 1) c6 (m : Int) (by omega) (by omega) (by omega) W
  rw [Int.toNat_natCast] at this
  exact this
 ·exact Below.grown (below_step HB hb) h3 (below_size (below_step HB hb)) (fun k hk => by cases hk; exact hge)
set_option maxHeartbeats 8000000 in
set_option maxRecDepth 100000 in
theorem points_calls (b : Nat) (ls : List S63) (P Ws : List S39) (left right : Int) (La : Option Addr) (Lc bt base : Nat) (Wa : Option Addr) (Wc : Nat) (A : Option Addr) (c : Nat) (l : List S66) (w : World)
  (hH : HyphAt w b ls (Tr.make (P.map Tr.pq)) Ws left right La Lc bt base Wa Wc) (hl : Kd.C k66 w A l.length l) (hlc : l.length ≤ c) (hfit : Tr.Fit P) (hok : LsOk ls)
  (hle : 1 ≤ left ∧ left ≤ 24) (hri : 1 ≤ right ∧ right ≤ 24) (hws : ∀ p ∈ Ws, p.f1.length = p.f0.length + 1) (h1000 : l.length ≤ 100000) (hrun : ∀ i, Tr.Word (runOf ls (l.drop i))) :
  Calls Try.prog 30 #[.pointer (some ⟨b, 0, none⟩), .slice A l.length c] w fun e w' => ∃ v, e = .returned v ∧ Kd.R Kd.bool 4 w' w.heap.size (fun _ => True) v (pointsOf ls P Ws left right l.length l) ∧ Below w.heap.size w w' := by
 have HH := Aside0.mk hH
 have HL := Aside0.mk hl
 have HLc := Aside0.mk hlc
 have HF := Aside0.mk hfit
 have HOK := Aside0.mk hok
 have HWS := Aside0.mk hws
 have HB := Aside0.mk (Below.refl w.heap.size w)
 have HRUN := Aside0.mk hrun
 clear hH hl hlc hfit hok hws hrun
 go_enter Try.func30, Try.ntmps30
 go_upto_region 3 with ((with_reducible refine gate_dst (N := 15) rfl ?_); refine Kd.R_make Kd.bool _ 4 rfl (N := 15) rfl 58 _ _ rfl ((l.length : Int) + 1) rfl rfl Try.underlying58 (.bool false) 1 info4 rfl (by decide) (by omega) false (ok := fun _ => True) (okp := fun _ => True) rfl (fun _ hk => hk) trivial (by omega) (by omega) HB.out (below_size HB.out) ?_; intro v12 w12 ho hb hg_ hnew_; clear hnew_ hg_; rw [show ((l.length : Int) + 1).toNat = l.length + 1 by omega] at ho; generalize hbs : List.replicate (l.length + 1) false = bs at ho; have HBS := Aside0.mk hbs; have HO := Aside0.mk ho; replace HB := Aside0.mk hb; obtain ⟨Ao, co, rfl⟩ := Kd.R_slice ho; clear ho hb hbs)
 obtain ⟨go, co', e1, hge, hlt, cells, hcells⟩ := Kd.R_form HO.out (by rw [← HBS.out, List.length_replicate]; omega)
 injection e1 with e1 _ e2
 subst e1
 subst e2
 have GE := Aside0.mk hge
 have HBL : Aside0 (bs.length = l.length + 1) := ⟨by rw [← HBS.out, List.length_replicate]⟩
 clear hge hlt hcells
 have HPI : Aside0 (PInv ls P Ws left right l 0 bs) := ⟨pinv_start HBS.out⟩
 obtain ⟨g0, hg0⟩ : ∃ g0 : Nat, g0 = l.length + 2 := ⟨_, rfl⟩
 have HG0 : Aside0 (g0 = l.length + 2) := ⟨hg0⟩
 clear hg0
 go_wp2_with fail
 go_loopg [7] g0 (fun g v7 w' => ∃ (i : Nat) (bs2 : List Bool), v7 = .int .i64 (i : Int) ∧ Aside0 (Kd.R Kd.bool 4 w' w.heap.size (fun _ => True) (.slice (some ⟨go, 0, none⟩) bs.length co) bs2) ∧ Aside0 (PInv ls P Ws left right l i bs2) ∧ Aside0 (g + i = l.length + 2) ∧ Aside0 (Below w.heap.size w w'))
 case atStart => exact ⟨0, bs, rfl, HO, HPI, ⟨by have := HG0.out; omega⟩, HB⟩
 case round =>
  obtain ⟨i, bs2, rfl, HOr, HIr, HGr, HBr⟩ := hrel
  clear HO HB HPI HBS HG0
  by_cases hc : (i : Int) < (l.length : Int)
  ·have hil : i < l.length := by omega
   go_upto_block 2 with fail
   go_cut [7, 8] (fun v7 v8 wc => ∃ (j : Nat) (word : List Int) (Aw : Option Addr) (cw : Nat), v7 = .int .i64 (j : Int) ∧ v8 = .slice Aw word.length cw ∧ Aside0 (Kd.R (Kd.int .i32) 21 wc w.heap.size (fun k => k ≠ go) (.slice Aw word.length cw) word) ∧ Aside0 (Kd.R Kd.bool 4 wc w.heap.size (fun _ => True) (.slice (some ⟨go, 0, none⟩) bs.length co) bs2) ∧ Aside0 (word = runOf ls (l.drop i)) ∧ Aside0 (j = i + word.length) ∧ Aside0 (j ≤ l.length) ∧ Aside0 (Below w.heap.size w wc))
   case first =>
    obtain ⟨g1, hg1⟩ : ∃ g1 : Nat, g1 + i = l.length + 1 := ⟨l.length + 1 - i, by omega⟩
    have HG1 := Aside0.mk hg1
    clear hg1
    go_wp2_with fail
    go_loopg [7, 8] g1 (fun g v7 v8 w' => ∃ (j : Nat) (word : List Int) (Aw : Option Addr) (cw : Nat), v7 = .int .i64 (j : Int) ∧ v8 = .slice Aw word.length cw ∧ Aside0 (Kd.R (Kd.int .i32) 21 w' w.heap.size (fun k => k ≠ go) (.slice Aw word.length cw) word) ∧ Aside0 (Kd.R Kd.bool 4 w' w.heap.size (fun _ => True) (.slice (some ⟨go, 0, none⟩) bs.length co) bs2) ∧ Aside0 (word ++ runOf ls (l.drop j) = runOf ls (l.drop i)) ∧ Aside0 (j = i + word.length) ∧ Aside0 (j ≤ l.length) ∧ Aside0 (g + j = l.length + 1) ∧ Aside0 (Below w.heap.size w w'))
    case atStart => exact ⟨i, [], none, 0, rfl, rfl, ⟨Kd.R_nil _ _ _ _ _⟩, HOr, ⟨rfl⟩, ⟨rfl⟩, ⟨by omega⟩, HG1, HBr⟩
    case round =>
     obtain ⟨j, word, Aw, cw, rfl, rfl, HWr, HOj, HRr, HJr, HLr, HGj, HBj⟩ := hrel
     clear HOr HBr HG1
     rename World => wj
     by_cases hj : (j : Int) < (l.length : Int)
     ·have hjl : j < l.length := by omega
      obtain ⟨s, hs⟩ : ∃ s, s = rd_T66 l (j : Int) := ⟨_, rfl⟩
      have hdr : l.drop j = s :: l.drop (j + 1) := by rw [hs, rd66' hjl]; exact List.drop_eq_getElem_cons hjl
      have HDR := Aside0.mk hdr
      obtain ⟨ad, e1, q0, q1, q2⟩ := at_T66 (Kd.C_below HL.out HBj.out) (j : Int) (by omega) (by omega)
      subst e1
      rw [← hs] at q0 q1 q2
      rw [Int.toNat_natCast] at q0
      have p0 : (0 : Int) ≤ (j : Int) := by omega
      have hwl : word.length ≤ 100000 := by have := HJr.out; omega
      clear hs hdr q1 q2
      obtain ⟨r, hr⟩ : ∃ r, r = (letOf ls s.f0).1 := ⟨_, rfl⟩
      have HR := Aside0.mk hr
      by_cases hlt : (letOf ls s.f0).2 = true
      ·have HLT := Aside0.mk hlt
       clear hlt hr
       go_upto_region 11 with ((go_at_call 39; refine (letter_calls b ls _ Ws left right La Lc bt base Wa Wc s.f0 _ (HH.out.below HBj.out) HOK.out).mono ?_; rintro e wk ⟨rfl, hb⟩; rw [HLT.out, ← HR.out]; replace HWr := Aside0.mk (Kd.R_below HWr.out hb); replace HOj := Aside0.mk (Kd.R_below HOj.out hb); replace HBj := Aside0.mk (below_step HBj.out hb); clear hb))
       clear q0
       have HFR : Aside0 (∀ k, wk.heap.size ≤ k → k ≠ go) := ⟨fun k hk e => by have := Kd.R_lt HOj.out go rfl; omega⟩
       have HNW : Aside0 ((Value.slice Aw word.length cw).ownBlock ≠ (Value.slice (some ⟨go, 0, none⟩) bs.length co).ownBlock) := ⟨fun e => HWr.out.1 go e rfl⟩
       go_wp2_with ((with_reducible refine gate_builtin (b := .append) (xs := #[.tmp 43, .tmp 45]) rfl ?_); at_builtin; (refine Kd.R_append (Kd.int .i32) (w0 := w) w.heap.size rfl (.tmp 43) (.tmp 45) 23 21 (.int .i32 0) 4 rfl Try.underlying23 info21 rfl (by decide) (by omega) (.slice Aw word.length cw) word r [.int .i32 r] (fun k => k ≠ go) (fun _ => False) rfl rfl rfl (fun _ hk => hk.elim) HFR.out HWr.out HBj.out (below_size HBj.out) (by omega) ?_; intro v1 w1 ho1 hb1 hg1 hat1; clear hat1; have HOj1 := Aside0.mk (Kd.R_grown1 HOj.out rfl hg1 (HNW.out)); obtain ⟨A5, c5, hv1⟩ := Kd.R_slice ho1; rw [hv1] at ho1 ⊢; have HW1 := Aside0.mk ho1; have HB1 := Aside0.mk hb1; clear ho1 hb1 hg1 hv1))
       go_roundg (gk - 1)
       case measure => have := HGj.out; omega
       case rel => exact ⟨j + 1, word ++ [r], A5, c5, by go_num, by rw [List.length_append]; rfl, HW1, HOj1, ⟨by rw [← HRr.out, HDR.out, runOf, if_pos HLT.out, HR.out, List.append_assoc]; rfl⟩, ⟨by have := HJr.out; rw [List.length_append, List.length_singleton]; omega⟩, ⟨by omega⟩, ⟨by have := HGj.out; omega⟩, HB1⟩
      ·have hlf : (letOf ls s.f0).2 = false := by simpa using hlt
       have HLT := Aside0.mk hlf
       clear hlt hlf hr
       go_upto_region 11 with ((go_at_call 39; refine (letter_calls b ls _ Ws left right La Lc bt base Wa Wc s.f0 _ (HH.out.below HBj.out) HOK.out).mono ?_; rintro e wk ⟨rfl, hb⟩; rw [HLT.out, ← HR.out]; replace HWr := Aside0.mk (Kd.R_below HWr.out hb); replace HOj := Aside0.mk (Kd.R_below HOj.out hb); replace HBj := Aside0.mk (below_step HBj.out hb); clear hb))
       clear q0
       go_wp2_with fail
       go_meet
       case rel => exact ⟨j, word, Aw, cw, rfl, rfl, HWr, HOj, ⟨by rw [← HRr.out, HDR.out, runOf, if_neg (by rw [HLT.out]; decide), List.append_nil]⟩, HJr, HLr, HBj⟩
     ·go_wp2_with fail
      go_meet
      case rel => exact ⟨j, word, Aw, cw, rfl, rfl, HWr, HOj, ⟨by rw [← HRr.out, List.drop_eq_nil_of_le (by omega), runOf, List.append_nil]⟩, HJr, HLr, HBj⟩
   case rest =>
    obtain ⟨j, word, Aw, cw, rfl, rfl, HWr, HOj, HRr, HJr, HLr, HBj⟩ := hcut
    clear HOr HBr
    rename World => wj
    go_upto_region 13 with fail
    have hb2 : bs2.length = bs.length := by rw [HBL.out]; exact HIr.out.1
    have HB2 := Aside0.mk hb2
    have hcl : word.length ≤ cw := (Kd.R_reads' HWr.out).2.1
    have hco : bs.length ≤ co := (Kd.R_reads' HOj.out).2.1
    have hjl := HLr.out
    have hjw := HJr.out
    have hbl := HBL.out
    have hcut1 : ∀ W, (Instr.slice 58 (.slice (some ⟨go, 0, none⟩) bs.length co) (some (.int .i64 (i : Int))) none none).run Try.prog W = .ok (.slice (some ⟨go, i, none⟩) (bs.length - i) (co - i)) W := by
     intro W
     obtain ⟨i4, h4, h4s⟩ : ∃ i4, Try.prog.info? 4 = some i4 ∧ i4.size = 1 := by
      have := info4
      cases h : Try.prog.info? 4 with
      | none => rw [h] at this; cases this
      | some x => rw [h] at this; simp only [Option.map_some, Option.some.injEq, Prod.mk.injEq] at this; exact ⟨x, rfl, this.2.1⟩
     have := cut_from (P := Try.prog) 58 4 .i64 Try.underlying58 h4 1 h4s (some ⟨go, 0, none⟩) bs.length co (i : Int) (by omega) (by omega) W
     rw [Int.toNat_natCast, if_neg (by omega)] at this
     rw [this]
     simp [Addr.add]
     omega
    have hD := below_drew (Below.refl wj.heap.size wj)
    replace HWr := Aside0.mk (Kd.R_drew HWr.out)
    replace HOj := Aside0.mk (Kd.R_drew HOj.out)
    replace HBj := Aside0.mk (below_drew HBj.out)
    have HWL : Aside0 (word.length ≤ 1000) := ⟨by rw [HRr.out]; exact (HRUN.out i).1⟩
    have HWD : Aside0 (Tr.Word word) := ⟨by rw [HRr.out]; exact HRUN.out i⟩
    have HIL : Aside0 (i + word.length ≤ bs.length) := ⟨by omega⟩
    clear hD hb2 hjl hjw hbl hco
    go_region_with (go_at_call 33; refine Calls.mono (word_calls b ls P Ws left right La Lc bt base Wa Wc Aw cw word _ (HH.out.below HBj.out) (Kd.R_reads' HWr.out).2.2 (Kd.R_reads' HWr.out).2.1 HF.out HWD.out hle hri HWS.out) ?_; rintro e wk ⟨v, rfl, hr, hb⟩; obtain ⟨A6, c6, W', rfl, hcut2, hcp, HOc, HBc⟩ := after_word (i := i) hr hb HOj.out HBj.out HB2.out HIL.out GE.out; clear hr hb)
    all_goals go_wp2_with fail
    all_goals go_roundg (gk - (word.length + 1))
    case measure => have := HGr.out; have := HJr.out; have := HLr.out; omega
    case rel =>
     have hje := HJr.out
     have hjl2 := HLr.out
     have hw64 : wrap64 ((j : Int) + 1) = (j : Int) + 1 := by unfold wrap64; omega
     refine ⟨i + word.length + 1, _, ?_, ⟨HOc⟩, ⟨pinv_step HIr.out hil HRr.out rfl⟩, ⟨by have := HGr.out; omega⟩, ⟨HBc⟩⟩
     first | rw [hw64] | skip
     congr 1
     omega
  ·go_wp2_with fail
   go_ret
   exact ⟨_, rfl, by rw [← pinv_end HIr.out (by omega)]; exact HOr.out, HBr.out⟩
end Go.Proofs.Ytoefjhdcipgacaa.Hy
end
section
namespace Go.Proofs.Ytoefjhdcipgacaa.PA
open Go.RowKit Go.Proofs.YtoefjhdcipgacaaW.PrintWords Go.Proofs.YtoefjhdcipgacaaW.PrintLast Go.Proofs.YtoefjhdcipgacaaW.PrintMore
attribute [local go_sem] max2_int min2_int max_two min_two max_three min_three max_four min_four   -- for this text's walks alone
set_option linter.unusedVariables false
set_option linter.unusedSimpArgs false
mutual
def stanzaref07_Hyphens_Points.l0 : Nat → List (S66) → List Bool → Int → List (S39) → List (S39) → List (S63) → Int → Int → Option (List Bool)
 | 0, _, _, _, _, _, _, _, _ => none
 | k + 1, x1, x5, x6, b6, b7, b5, b8, b9 => if x6 < (x1.length : Int) then (stanzaref07_Hyphens_Points.l1 k x1 x5 x6 ([] : List Int) x6 b6 b7 b5 b8 b9) else (some x5)
def stanzaref07_Hyphens_Points.j2 : Nat → List (S66) → List Bool → Int → List Int → Int → List (S39) → List (S39) → List (S63) → Int → Int → Option (List Bool)
 | 0, _, _, _, _, _, _, _, _, _, _ => none
 | k + 1, x1, x5, x6, x7, x8, b6, b7, b5, b8, b9 => (stanzaref07_Hyphens_Word.f k b6 b7 b5 b8 b9 x7).bind fun c2 => (stanzaref07_Hyphens_Points.l2 k x1 x5 x6 x7 x8 c2 1 b6 b7 b5 b8 b9)
def stanzaref07_Hyphens_Points.l2 : Nat → List (S66) → List Bool → Int → List Int → Int → List Bool → Int → List (S39) → List (S39) → List (S63) → Int → Int → Option (List Bool)
 | 0, _, _, _, _, _, _, _, _, _, _, _, _ => none
 | k + 1, x1, x5, x6, x7, x8, o6, g4, b6, b7, b5, b8, b9 => if g4 < (x7.length : Int) then (if 0 ≤ g4 then (if g4 < (o6.length : Int) then (if 0 ≤ (wrap64 (x6 + g4)) then (if (wrap64 (x6 + g4)) < (x5.length : Int) then (stanzaref07_Hyphens_Points.l2 k x1 (x5.set ((wrap64 (x6 + g4)) : Int).toNat (rdOf false o6 g4)) x6 x7 x8 o6 (wrap64 (g4 + 1)) b6 b7 b5 b8 b9) else (none)) else (none)) else (none)) else (none)) else (stanzaref07_Hyphens_Points.l0 k x1 x5 (wrap64 (x8 + 1)) b6 b7 b5 b8 b9)
def stanzaref07_Hyphens_Points.l1 : Nat → List (S66) → List Bool → Int → List Int → Int → List (S39) → List (S39) → List (S63) → Int → Int → Option (List Bool)
 | 0, _, _, _, _, _, _, _, _, _, _ => none
 | k + 1, x1, x5, x6, x7, x8, b6, b7, b5, b8, b9 => if x8 < (x1.length : Int) then (if 0 ≤ x8 then ((stanzaref07_Letter.f k b5 ((rd_T66 x1 x8).f0)).bind fun l9 => (if l9.2 = true then (if x7.length < 35184372088832 then (stanzaref07_Hyphens_Points.l1 k x1 x5 x6 (x7 ++ [l9.1]) (wrap64 (x8 + 1)) b6 b7 b5 b8 b9) else (none)) else (stanzaref07_Hyphens_Points.j2 k x1 x5 x6 x7 x8 b6 b7 b5 b8 b9))) else (none)) else (stanzaref07_Hyphens_Points.j2 k x1 x5 x6 x7 x8 b6 b7 b5 b8 b9)
end
def stanzaref07_Hyphens_Points.f (k : Nat) (l0_0 : List (S39)) (l0_1 : List (S39)) (l0_2 : List (S63)) (a8 : Int) (a9 : Int) (l1 : List (S66)) : Option (List Bool) := if 0 ≤ (wrap64 ((l1.length : Int) + 1)) then (if (wrap64 ((l1.length : Int) + 1) : Int).toNat ≤ 281474976710656 then (stanzaref07_Hyphens_Points.l0 k l1 (List.replicate (wrap64 ((l1.length : Int) + 1) : Int).toNat false) 0 l0_0 l0_1 l0_2 a8 a9) else (none)) else (none)
set_option maxHeartbeats 8000000 in
set_option maxRecDepth 100000 in
theorem stanzaref07_Hyphens_Points.calls (k : Nat) (d3 : Option Addr) (d4 : Nat) (l0_0 : List (S39)) (d5 : Option Addr) (d6 : Nat) (l0_1 : List (S39)) (d7 : Option Addr) (d8 : Nat) (l0_2 : List (S63)) (a8 : Int) (a9 : Int) (A1 : Option Addr) (c1 : Nat) (l1 : List (S66)) (r : List Bool) (w : World) (m0 : Kd.C k39 w d3 l0_0.length l0_0) (m1 : l0_0.length ≤ d4) (m2 : Kd.C k39 w d5 l0_1.length l0_1) (m3 : l0_1.length ≤ d6) (m4 : Kd.C k63 w d7 l0_2.length l0_2) (m5 : l0_2.length ≤ d8) (r7 : Kd.C k66 w A1 l1.length l1) (r8 : l1.length ≤ c1) (h : stanzaref07_Hyphens_Points.f k l0_0 l0_1 l0_2 a8 a9 l1 = some r) :
  Calls Try.prog 31 #[.agg #[.slice d3 l0_0.length d4, .slice d5 l0_1.length d6, .slice d7 l0_2.length d8, .int .i64 a8, .int .i64 a9], .slice A1 l1.length c1] w fun e w' => ∃ r9 : Value, e = .returned (r9) ∧ Kd.R Kd.bool 4 w' w.heap.size (fun _ => True) r9 r ∧ Below w.heap.size w w' := by
 have hu52 := Try.underlying52
 have q7 := Aside0.mk m0
 have q8 := Aside0.mk m1
 clear m0 m1
 have q9 := Aside0.mk m2
 have r0 := Aside0.mk m3
 clear m2 m3
 have e7 := Aside0.mk m4
 have e8 := Aside0.mk m5
 clear m4 m5
 have s0 := Aside0.mk r7
 have u3 := Aside0.mk r8
 clear r7 r8
 have HB := Aside0.mk (Below.refl w.heap.size w)
 have H : (if 0 ≤ (wrap64 ((l1.length : Int) + 1)) then (if (wrap64 ((l1.length : Int) + 1) : Int).toNat ≤ 281474976710656 then (stanzaref07_Hyphens_Points.l0 k l1 (List.replicate (wrap64 ((l1.length : Int) + 1) : Int).toNat false) 0 l0_0 l0_1 l0_2 a8 a9) else (none)) else (none)) = some r := h
 clear h
 obtain ⟨f7, j5⟩ : ∃ j_ : Int, (wrap64 ((l1.length : Int) + 1)) = j_ := ⟨_, rfl⟩
 replace H : (if 0 ≤ (f7) then (if (f7 : Int).toNat ≤ 281474976710656 then (stanzaref07_Hyphens_Points.l0 k l1 (List.replicate (f7 : Int).toNat false) 0 l0_0 l0_1 l0_2 a8 a9) else (none)) else (none)) = some r := by first | (rw [j5] at H; exact H) | (simp only [j5] at H ⊢; exact H)
 have hji3w : (IntKind.i64.wrap ((l1.length : Int) + 1)) = f7 := (i64_w _).trans j5
 by_cases c4 : 0 ≤ (f7)
 ·rw [if_pos c4] at H
  have j6 := eq_true c4
  have j7 : decide (0 ≤ (f7)) = true := decide_eq_true c4
  clear c4
  by_cases c5 : (f7 : Int).toNat ≤ 281474976710656
  ·rw [if_pos c5] at H
   have j8 := eq_true c5
   have j9 : decide ((f7 : Int).toNat ≤ 281474976710656) = true := decide_eq_true c5
   clear c5
   obtain ⟨o9, g0⟩ : ∃ y_ : List Bool, y_ = (List.replicate (f7 : Int).toNat false) := ⟨_, rfl⟩
   replace H : (stanzaref07_Hyphens_Points.l0 k l1 o9 0 l0_0 l0_1 l0_2 a8 a9) = some r := by first | (rw [g0]; with_reducible exact H) | (have f8 := (Option.bind_some _ _).symm.trans H; rw [g0]; with_reducible exact f8) | (have f8 := (Option.bind_some _ _).symm.trans H; with_reducible exact f8) | with_reducible exact H | (rw [g0]; exact H) | exact H
   have m6 := Aside0.mk g0
   clear g0
   have H' := Aside0.mk H
   clear H
   go_enter Try.func31, Try.ntmps31
   go_wp2_with (first | ((with_reducible refine gate_dst (N := 2) rfl ?_); refine box_event ?hg (N := 2) ?hd (cs := #[.slice d3 l0_0.length d4, .slice d5 l0_1.length d6, .slice d7 l0_2.length d8, .int .i64 a8, .int .i64 a9]) (t := 52) ?hr ?_; (case hd => rfl); (case hg => rfl); (case hr => first | (go_simp; done) | (go_simp; rfl)); intro b0 hg w6 hbox hb; have c6 := Aside0.mk (below_step (by exact HB.out) hb); have c7 := Aside0.mk (hbox); have c8 := Aside0.mk ((by rw [hg]; exact (below_size (by exact HB.out)) : w.heap.size ≤ b0)); have e2 := Aside0.mk ((by rw [hg]; exact (below_size (by exact HB.out)) : w.heap.size ≤ b0)); clear HB; have HB := c6; have a6 := c7; have t5 := c8; have b4 := e2; clear c6 c7 c8 e2; clear hb hbox hg) | ((with_reducible refine gate_dst (N := 16) rfl ?_); refine Kd.R_make Kd.bool _ 4 rfl (N := 16) rfl 58 _ _ rfl f7 rfl rfl Try.underlying58 (.bool false) 1 info4 rfl (by decide) (by omega) false (ok := fun _ => True) (okp := fun _ => True) rfl (fun _ hk => hk) trivial (of_decide_eq_true (by first | (with_reducible assumption) | assumption)) (Nat.le_trans (Nat.mul_le_mul_right _ (of_decide_eq_true (by first | (with_reducible assumption) | assumption) : f7.toNat ≤ 281474976710656)) (by omega)) (Below.refl _ _) (Nat.le_refl _) ?_; intro g8 w7 l3 hb hg_ hnew_; clear hg_ hnew_; (first | rw [← m6.out] at l3 | (simp only [Int.reduceToNat] at l3; rw [← m6.out] at l3)); have c6 := Aside0.mk (Kd.R_lower l3 (below_size (by exact HB.out))); have c7 := Aside0.mk (blk_below (g := b0) (o := .cells #[.slice d3 l0_0.length d4, .slice d5 l0_1.length d6, .slice d7 l0_2.length d8, .int .i64 a8, .int .i64 a9] 52 (0, 0)) (by exact a6.out) hb); have c8 := Aside0.mk (below_step (by exact HB.out) hb); clear a6; clear HB; have r1 := c6; have a6 := c7; have HB := c8; clear c6 c7 c8; clear hb l3))
   go_loopg [6] k (fun kq v6 w' => ∃ (e3 : List Bool) (c0 : Int), v6 = .int .i64 c0 ∧ Aside0 (stanzaref07_Hyphens_Points.l0 kq l1 e3 c0 l0_0 l0_1 l0_2 a8 a9 = some r) ∧ Aside0 (kq ≤ k) ∧ Aside0 (Kd.R Kd.bool 4 w' w.heap.size (fun _ => True) g8 e3) ∧ Aside0 (w'.heap[b0]? = some (.cells #[(.slice d3 l0_0.length d4), (.slice d5 l0_1.length d6), (.slice d7 l0_2.length d8), .int .i64 a8, .int .i64 a9] 52 (0, 0))) ∧ Aside0 (Below w.heap.size w w'))
   case atStart => exact ⟨(o9), (0), (by first | rfl | (simp; done) | (simp [*]; done)), H', ⟨Nat.le_refl _⟩, ⟨by exact r1.out⟩, ⟨by exact a6.out⟩, ⟨by exact HB.out⟩⟩
   case round =>
    clear H'
    try clear c1
    try clear p2
    try clear c3
    try clear c4
    try clear j6
    try clear j7
    try clear c5
    try clear j8
    try clear j9
    try clear p6
    obtain ⟨e3, c0, rfl, HA, g5, a7, a6, HB⟩ := hrel
    cases gk with
    | zero => exact absurd HA.out (by simp [stanzaref07_Hyphens_Points.l0])
    | succ k1 =>
     have H := HA.out
     clear HA
     simp only [stanzaref07_Hyphens_Points.l0] at H
     by_cases c9 : c0 < (l1.length : Int)
     ·rw [if_pos c9] at H
      have k0 : decide (c0 < (l1.length : Int)) = true := decide_eq_true c9
      clear c9
      have l4 := Aside0.mk H
      clear H
      go_upto_block 2 with (fail)
      repeat (go_quiet (fail); go_upto_block 2 with (fail))
      go_cut [7, 8] (fun v7 v8 wc => ∃ (kq : Nat) (e5 : List Int) (f9 : Int), v8 = .int .i64 f9 ∧ Aside0 (stanzaref07_Hyphens_Points.j2 kq l1 e3 c0 e5 f9 l0_0 l0_1 l0_2 a8 a9 = some r) ∧ Aside0 (kq ≤ k1) ∧ Aside0 (Kd.R Kd.bool 4 wc w.heap.size (fun _ => True) g8 e3) ∧ Aside0 (Kd.R (Kd.int .i32) 21 wc w.heap.size (fun _ => True) v7 e5) ∧ Aside0 (wc.heap[b0]? = some (.cells #[(.slice d3 l0_0.length d4), (.slice d5 l0_1.length d6), (.slice d7 l0_2.length d8), .int .i64 a8, .int .i64 a9] 52 (0, 0))) ∧ Aside0 (Below w.heap.size w wc))
      case first =>
       have H := l4.out
       clear l4
       have H' := Aside0.mk H
       clear H
       go_wp2
       repeat (go_quiet (fail); try go_wp2)
       go_loopg [7, 8] k1 (fun kq v7 v8 w' => ∃ (d9 : List Int) (b3 : Int), v8 = .int .i64 b3 ∧ Aside0 (stanzaref07_Hyphens_Points.l1 kq l1 e3 c0 d9 b3 l0_0 l0_1 l0_2 a8 a9 = some r) ∧ Aside0 (kq ≤ k1) ∧ Aside0 (Kd.R Kd.bool 4 w' w.heap.size (fun _ => True) g8 e3) ∧ Aside0 (Kd.R (Kd.int .i32) 21 w' w.heap.size (fun _ => True) v7 d9) ∧ Aside0 (w'.heap[b0]? = some (.cells #[(.slice d3 l0_0.length d4), (.slice d5 l0_1.length d6), (.slice d7 l0_2.length d8), .int .i64 a8, .int .i64 a9] 52 (0, 0))) ∧ Aside0 (Below w.heap.size w w'))
       case atStart => exact ⟨(([] : List Int)), (c0), (by first | rfl | (simp; done) | (simp [*]; done)), H', ⟨Nat.le_refl _⟩, ⟨by exact a7.out⟩, ⟨by first | exact Kd.R_nil _ _ _ _ _ | exact Kd.N_nil _ _ _ _ _ | exact Kd.V_nil _ _ _ _ _ | exact Kd.Q_nil _ _ _ _ _ | exact Kd.S_nil _ _ _ _ _⟩, ⟨by exact a6.out⟩, ⟨by exact HB.out⟩⟩
       case round =>
        clear H'
        try clear c1
        try clear p2
        try clear c3
        try clear c4
        try clear j6
        try clear j7
        try clear c5
        try clear j8
        try clear j9
        try clear p6
        try clear c9
        try clear k0
        try clear p2
        try clear p6
        obtain ⟨d9, b3, rfl, HA, m7, a7, b1, a6, HB⟩ := hrel
        cases gk with
        | zero => exact absurd HA.out (by simp [stanzaref07_Hyphens_Points.l1])
        | succ k2 =>
         have H := HA.out
         clear HA
         simp only [stanzaref07_Hyphens_Points.l1] at H
         by_cases g6 : b3 < (l1.length : Int)
         ·rw [if_pos g6] at H
          have e9 : decide (b3 < (l1.length : Int)) = true := decide_eq_true g6
          clear g6
          (first | rw [e9] | (simp only [i64_w, i32_w]; rw [e9]) | skip)
          by_cases g9 : 0 ≤ b3
          ·rw [if_pos g9] at H
           have m8 : decide (0 ≤ b3) = true := decide_eq_true g9
           clear g9
           replace H := Option.bind_eq_some_iff.mp H
           obtain ⟨⟨e0, p0⟩, p1, H⟩ := H
           replace H : (if p0 = true then (if d9.length < 35184372088832 then (stanzaref07_Hyphens_Points.l1 k2 l1 e3 c0 (d9 ++ [e0]) (wrap64 (b3 + 1)) l0_0 l0_1 l0_2 a8 a9) else (none)) else (stanzaref07_Hyphens_Points.j2 k2 l1 e3 c0 d9 b3 l0_0 l0_1 l0_2 a8 a9)) = some r := H
           have h0 := Aside0.mk p1
           clear p1
           by_cases h1 : p0 = true
           ·subst h1
            have H1 : (if d9.length < 35184372088832 then (stanzaref07_Hyphens_Points.l1 k2 l1 e3 c0 (d9 ++ [e0]) (wrap64 (b3 + 1)) l0_0 l0_1 l0_2 a8 a9) else (none)) = some r := by rw [if_pos rfl] at H; exact H
            clear H
            have H := H1
            clear H1
            by_cases h2 : d9.length < 35184372088832
            ·rw [if_pos h2] at H
             have k4 := Aside0.mk h2
             clear h2
             obtain ⟨p4, g1⟩ : ∃ y_ : List Int, y_ = (d9 ++ [e0]) := ⟨_, rfl⟩
             replace H : (stanzaref07_Hyphens_Points.l1 k2 l1 e3 c0 p4 (wrap64 (b3 + 1)) l0_0 l0_1 l0_2 a8 a9) = some r := by first | (rw [g1]; with_reducible exact H) | (have f8 := (Option.bind_some _ _).symm.trans H; rw [g1]; with_reducible exact f8) | (have f8 := (Option.bind_some _ _).symm.trans H; with_reducible exact f8) | with_reducible exact H | (rw [g1]; exact H) | exact H
             have k5 := Aside0.mk g1
             clear g1
             have H' := Aside0.mk H
             clear H
             have h3 : wr.cell? ⟨b0, 0, none⟩ = some (.slice d3 l0_0.length d4) := (blk_cell a6.out 0).trans rfl
             have h4 : wr.cell? ⟨b0, 1, none⟩ = some (.slice d5 l0_1.length d6) := (blk_cell a6.out 1).trans rfl
             have h5 : wr.cell? ⟨b0, 2, none⟩ = some (.slice d7 l0_2.length d8) := (blk_cell a6.out 2).trans rfl
             have h6 : wr.cell? ⟨b0, 3, none⟩ = some (.int .i64 a8) := (blk_cell a6.out 3).trans rfl
             have h7 : wr.cell? ⟨b0, 4, none⟩ = some (.int .i64 a9) := (blk_cell a6.out 4).trans rfl
             have h8 := blk_frozen a6.out 0
             have h9 := blk_frozen a6.out 1
             have i0 := blk_frozen a6.out 2
             have i1 := blk_frozen a6.out 3
             have i2 := blk_frozen a6.out 4
             have f1 : 0 ≤ (b3 : Int) := of_decide_eq_true (by first | (with_reducible assumption) | assumption)
             have f2 : b3 < (l1.length : Int) := of_decide_eq_true (by first | (with_reducible assumption) | assumption)
             obtain ⟨r2, l5, d0, d1, d2⟩ := at_T66 s0.out b3 f1 f2
             cases l5
             replace d0 := (HB.out.cell (World.block_lt_of_cell? w _ d0)).trans d0
             replace d1 := (HB.out.cell (World.block_lt_of_cell? w _ d1)).trans d1
             replace d2 := (HB.out.cell (World.block_lt_of_cell? w _ d2)).trans d2
             replace f1 := eq_true f1
             replace f2 := eq_true f2
             go_wp2_with (first | (go_at_call 40; (with_reducible refine (stanzaref07_Letter.calls k2 _ _ l0_2 ((rd_T66 l1 b3).f0) e0 true _ ?side1 ?side2 h0.out).mono ?_); (case side1 => repeat (first | exact (Kd.C_below e7.out HB.out) | (with_reducible refine Kd.C_alloc ?_ _) | (with_reducible refine Kd.C_drewN ?_ _) | (with_reducible refine Kd.C_drew ?_))); (case side2 => exact e8.out); rintro e w' ⟨rfl, ⟨nd, rfl⟩⟩; (try first | exact ⟨rfl, _, World.drewN_drewN _ _ _⟩ | exact ⟨rfl, _, Eq.trans (World.drewN_drewN _ _ _) (congrArg (World.drewN _) (Nat.add_assoc _ _ _))⟩)) | ((with_reducible refine gate_builtin (b := .append) (xs := #[.tmp 39, .tmp 41]) rfl ?_); at_builtin; refine Kd.R_append (Kd.int .i32) (w0 := w) w.heap.size rfl (.tmp 39) (.tmp 41) 23 21 (.int .i32 0) 4 rfl Try.underlying23 info21 rfl (by decide) (by omega) u7 d9 e0 [.int .i32 e0] (fun _ => True) (fun _ => False) rfl rfl ?aP (fun _ hk => hk.elim) ?aF ?aO ?aB ?aS ?aL ?_; (case aP => exact rfl); (case aB => exact (by repeat (first | (with_reducible first | exact HB.out | apply below_alloc | apply pw_below_drewN | apply below_drew1 | refine below_set ?_ b4.out) | exact HB.out))); (case aF => exact (fun _ _ => trivial)); (case aO => exact (by (with_reducible repeat (first | apply Kd.R_alloc | apply Kd.R_drewN | apply Kd.R_drew)); exact b1.out)); (case aS => exact (below_size (by repeat (first | (with_reducible first | exact HB.out | apply below_alloc | apply pw_below_drewN | apply below_drew1 | refine below_set ?_ b4.out) | exact HB.out)))); (case aL => have := k4.out; omega); intro p5 s1 ho hb hg hat; rw [← k5.out] at ho; have c6 := Aside0.mk (Kd.R_over' (by (with_reducible repeat (first | apply Kd.R_alloc | apply Kd.R_drewN | apply Kd.R_drew)); exact a7.out) (Kd.R_typed (by (with_reducible repeat (first | apply Kd.R_alloc | apply Kd.R_drewN | apply Kd.R_drew)); exact b1.out)) (by decide) hg); have c7 := Aside0.mk (blk_grown (g := b0) (o := .cells #[.slice d3 l0_0.length d4, .slice d5 l0_1.length d6, .slice d7 l0_2.length d8, .int .i64 a8, .int .i64 a9] 52 (0, 0)) (by (with_reducible repeat (first | refine blk_drewN ?_ _ | refine blk_drew ?_ | refine blk_alloc ?_ _)); exact a6.out) hg (Kd.R_ne b1.out a6.out (by decide))); have c8 := Aside0.mk (hb); have e2 := Aside0.mk (ho); clear a7; clear a6; clear HB; clear b1; have a7 := c6; have a6 := c7; have HB := c8; have k6 := e2; clear c6 c7 c8 e2; clear ho hb hg hat))
             repeat (go_quiet (first | (go_at_call 40; (with_reducible refine (stanzaref07_Letter.calls k2 _ _ l0_2 ((rd_T66 l1 b3).f0) e0 true _ ?side1 ?side2 h0.out).mono ?_); (case side1 => repeat (first | exact (Kd.C_below e7.out HB.out) | (with_reducible refine Kd.C_alloc ?_ _) | (with_reducible refine Kd.C_drewN ?_ _) | (with_reducible refine Kd.C_drew ?_))); (case side2 => exact e8.out); rintro e w' ⟨rfl, ⟨nd, rfl⟩⟩; (try first | exact ⟨rfl, _, World.drewN_drewN _ _ _⟩ | exact ⟨rfl, _, Eq.trans (World.drewN_drewN _ _ _) (congrArg (World.drewN _) (Nat.add_assoc _ _ _))⟩)) | ((with_reducible refine gate_builtin (b := .append) (xs := #[.tmp 39, .tmp 41]) rfl ?_); at_builtin; refine Kd.R_append (Kd.int .i32) (w0 := w) w.heap.size rfl (.tmp 39) (.tmp 41) 23 21 (.int .i32 0) 4 rfl Try.underlying23 info21 rfl (by decide) (by omega) u7 d9 e0 [.int .i32 e0] (fun _ => True) (fun _ => False) rfl rfl ?aP (fun _ hk => hk.elim) ?aF ?aO ?aB ?aS ?aL ?_; (case aP => exact rfl); (case aB => exact (by repeat (first | (with_reducible first | exact HB.out | apply below_alloc | apply pw_below_drewN | apply below_drew1 | refine below_set ?_ b4.out) | exact HB.out))); (case aF => exact (fun _ _ => trivial)); (case aO => exact (by (with_reducible repeat (first | apply Kd.R_alloc | apply Kd.R_drewN | apply Kd.R_drew)); exact b1.out)); (case aS => exact (below_size (by repeat (first | (with_reducible first | exact HB.out | apply below_alloc | apply pw_below_drewN | apply below_drew1 | refine below_set ?_ b4.out) | exact HB.out)))); (case aL => have := k4.out; omega); intro p5 s1 ho hb hg hat; rw [← k5.out] at ho; have c6 := Aside0.mk (Kd.R_over' (by (with_reducible repeat (first | apply Kd.R_alloc | apply Kd.R_drewN | apply Kd.R_drew)); exact a7.out) (Kd.R_typed (by (with_reducible repeat (first | apply Kd.R_alloc | apply Kd.R_drewN | apply Kd.R_drew)); exact b1.out)) (by decide) hg); have c7 := Aside0.mk (blk_grown (g := b0) (o := .cells #[.slice d3 l0_0.length d4, .slice d5 l0_1.length d6, .slice d7 l0_2.length d8, .int .i64 a8, .int .i64 a9] 52 (0, 0)) (by (with_reducible repeat (first | refine blk_drewN ?_ _ | refine blk_drew ?_ | refine blk_alloc ?_ _)); exact a6.out) hg (Kd.R_ne b1.out a6.out (by decide))); have c8 := Aside0.mk (hb); have e2 := Aside0.mk (ho); clear a7; clear a6; clear HB; clear b1; have a7 := c6; have a6 := c7; have HB := c8; have k6 := e2; clear c6 c7 c8 e2; clear ho hb hg hat)); try go_wp2_with (first | (go_at_call 40; (with_reducible refine (stanzaref07_Letter.calls k2 _ _ l0_2 ((rd_T66 l1 b3).f0) e0 true _ ?side1 ?side2 h0.out).mono ?_); (case side1 => repeat (first | exact (Kd.C_below e7.out HB.out) | (with_reducible refine Kd.C_alloc ?_ _) | (with_reducible refine Kd.C_drewN ?_ _) | (with_reducible refine Kd.C_drew ?_))); (case side2 => exact e8.out); rintro e w' ⟨rfl, ⟨nd, rfl⟩⟩; (try first | exact ⟨rfl, _, World.drewN_drewN _ _ _⟩ | exact ⟨rfl, _, Eq.trans (World.drewN_drewN _ _ _) (congrArg (World.drewN _) (Nat.add_assoc _ _ _))⟩)) | ((with_reducible refine gate_builtin (b := .append) (xs := #[.tmp 39, .tmp 41]) rfl ?_); at_builtin; refine Kd.R_append (Kd.int .i32) (w0 := w) w.heap.size rfl (.tmp 39) (.tmp 41) 23 21 (.int .i32 0) 4 rfl Try.underlying23 info21 rfl (by decide) (by omega) u7 d9 e0 [.int .i32 e0] (fun _ => True) (fun _ => False) rfl rfl ?aP (fun _ hk => hk.elim) ?aF ?aO ?aB ?aS ?aL ?_; (case aP => exact rfl); (case aB => exact (by repeat (first | (with_reducible first | exact HB.out | apply below_alloc | apply pw_below_drewN | apply below_drew1 | refine below_set ?_ b4.out) | exact HB.out))); (case aF => exact (fun _ _ => trivial)); (case aO => exact (by apply Kd.R_drewN; exact b1.out)); (case aS => exact (below_size (by repeat (first | (with_reducible first | exact HB.out | apply below_alloc | apply pw_below_drewN | apply below_drew1 | refine below_set ?_ b4.out) | exact HB.out)))); (case aL => have := k4.out; omega); intro p5 s1 ho hb hg hat; rw [← k5.out] at ho; have c6 := Aside0.mk (Kd.R_over' (by apply Kd.R_drewN; exact a7.out) (Kd.R_typed (by apply Kd.R_drewN; exact b1.out)) (by decide) hg); have c7 := Aside0.mk (blk_grown (g := b0) (o := .cells #[.slice d3 l0_0.length d4, .slice d5 l0_1.length d6, .slice d7 l0_2.length d8, .int .i64 a8, .int .i64 a9] 52 (0, 0)) (by refine blk_drewN ?_ _; exact a6.out) hg (Kd.R_ne b1.out a6.out (by decide))); have c8 := Aside0.mk (hb); have e2 := Aside0.mk (ho); clear a7; clear a6; clear HB; clear b1; have a7 := c6; have a6 := c7; have HB := c8; have k6 := e2; clear c6 c7 c8 e2; clear ho hb hg hat)))
             go_roundg k2
             case measure => have := g5.out; have := m7.out; omega
             case rel => exact ⟨(p4), (wrap64 (b3 + 1)), (by first | rfl | (simp; done) | (simp [*]; done)), H', ⟨by have := g5.out; have := m7.out; omega⟩, ⟨by exact a7.out⟩, ⟨by exact k6.out⟩, ⟨by exact a6.out⟩, ⟨by exact HB.out⟩⟩
            ·rw [if_neg h2] at H
             exact absurd H (by simp)
           ·replace h1 := Bool.eq_false_iff.mpr h1
            subst h1
            have H1 : (stanzaref07_Hyphens_Points.j2 k2 l1 e3 c0 d9 b3 l0_0 l0_1 l0_2 a8 a9) = some r := by rw [if_neg (show ¬ (false = true) by decide)] at H; exact H
            clear H
            have H := H1
            clear H1
            have H' := Aside0.mk H
            clear H
            have i3 : wr.cell? ⟨b0, 0, none⟩ = some (.slice d3 l0_0.length d4) := (blk_cell a6.out 0).trans rfl
            have i4 : wr.cell? ⟨b0, 1, none⟩ = some (.slice d5 l0_1.length d6) := (blk_cell a6.out 1).trans rfl
            have i5 : wr.cell? ⟨b0, 2, none⟩ = some (.slice d7 l0_2.length d8) := (blk_cell a6.out 2).trans rfl
            have i6 : wr.cell? ⟨b0, 3, none⟩ = some (.int .i64 a8) := (blk_cell a6.out 3).trans rfl
            have i7 : wr.cell? ⟨b0, 4, none⟩ = some (.int .i64 a9) := (blk_cell a6.out 4).trans rfl
            have i8 := blk_frozen a6.out 0
            have i9 := blk_frozen a6.out 1
            have j0 := blk_frozen a6.out 2
            have j1 := blk_frozen a6.out 3
            have j3 := blk_frozen a6.out 4
            have f1 : 0 ≤ (b3 : Int) := of_decide_eq_true (by first | (with_reducible assumption) | assumption)
            have f2 : b3 < (l1.length : Int) := of_decide_eq_true (by first | (with_reducible assumption) | assumption)
            obtain ⟨r2, l5, d0, d1, d2⟩ := at_T66 s0.out b3 f1 f2
            cases l5
            replace d0 := (HB.out.cell (World.block_lt_of_cell? w _ d0)).trans d0
            replace d1 := (HB.out.cell (World.block_lt_of_cell? w _ d1)).trans d1
            replace d2 := (HB.out.cell (World.block_lt_of_cell? w _ d2)).trans d2
            replace f1 := eq_true f1
            replace f2 := eq_true f2
            go_wp2_with (first | (go_at_call 40; (with_reducible refine (stanzaref07_Letter.calls k2 _ _ l0_2 ((rd_T66 l1 b3).f0) e0 false _ ?side1 ?side2 h0.out).mono ?_); (case side1 => repeat (first | exact (Kd.C_below e7.out HB.out) | (with_reducible refine Kd.C_alloc ?_ _) | (with_reducible refine Kd.C_drewN ?_ _) | (with_reducible refine Kd.C_drew ?_))); (case side2 => exact e8.out); rintro e w' ⟨rfl, ⟨nd, rfl⟩⟩; (try first | exact ⟨rfl, _, World.drewN_drewN _ _ _⟩ | exact ⟨rfl, _, Eq.trans (World.drewN_drewN _ _ _) (congrArg (World.drewN _) (Nat.add_assoc _ _ _))⟩)))
            repeat (go_quiet (first | (go_at_call 40; (with_reducible refine (stanzaref07_Letter.calls k2 _ _ l0_2 ((rd_T66 l1 b3).f0) e0 false _ ?side1 ?side2 h0.out).mono ?_); (case side1 => repeat (first | exact (Kd.C_below e7.out HB.out) | (with_reducible refine Kd.C_alloc ?_ _) | (with_reducible refine Kd.C_drewN ?_ _) | (with_reducible refine Kd.C_drew ?_))); (case side2 => exact e8.out); rintro e w' ⟨rfl, ⟨nd, rfl⟩⟩; (try first | exact ⟨rfl, _, World.drewN_drewN _ _ _⟩ | exact ⟨rfl, _, Eq.trans (World.drewN_drewN _ _ _) (congrArg (World.drewN _) (Nat.add_assoc _ _ _))⟩))); try go_wp2_with (first | (go_at_call 40; (with_reducible refine (stanzaref07_Letter.calls k2 _ _ l0_2 ((rd_T66 l1 b3).f0) e0 false _ ?side1 ?side2 h0.out).mono ?_); (case side1 => repeat (first | exact (Kd.C_below e7.out HB.out) | (with_reducible refine Kd.C_alloc ?_ _) | (with_reducible refine Kd.C_drewN ?_ _) | (with_reducible refine Kd.C_drew ?_))); (case side2 => exact e8.out); rintro e w' ⟨rfl, ⟨nd, rfl⟩⟩; (try first | exact ⟨rfl, _, World.drewN_drewN _ _ _⟩ | exact ⟨rfl, _, Eq.trans (World.drewN_drewN _ _ _) (congrArg (World.drewN _) (Nat.add_assoc _ _ _))⟩))))
            go_meet
            case rel => exact ⟨_, (d9), (b3), (by first | rfl | (simp; done) | (simp [*]; done)), H', ⟨by have := g5.out; have := m7.out; first | omega | exact Nat.le_refl _⟩, ⟨by apply Kd.R_drewN; exact a7.out⟩, ⟨by apply Kd.R_drewN; exact b1.out⟩, ⟨by refine blk_drewN ?_ _; exact a6.out⟩, ⟨by repeat (first | (with_reducible first | exact HB.out | apply below_alloc | apply pw_below_drewN | apply below_drew1 | refine below_set ?_ b4.out) | exact HB.out)⟩⟩
          ·rw [if_neg g9] at H
           exact absurd H (by simp)
         ·rw [if_neg g6] at H
          have e9 : decide (b3 < (l1.length : Int)) = false := decide_eq_false g6
          clear g6
          (first | rw [e9] | (simp only [i64_w, i32_w]; rw [e9]) | skip)
          have H' := Aside0.mk H
          clear H
          go_wp2
          repeat (go_quiet (fail); try go_wp2)
          go_meet
          case rel => exact ⟨_, (d9), (b3), (by first | rfl | (simp; done) | (simp [*]; done)), H', ⟨by have := g5.out; have := m7.out; first | omega | exact Nat.le_refl _⟩, ⟨by exact a7.out⟩, ⟨by exact b1.out⟩, ⟨by exact a6.out⟩, ⟨by exact HB.out⟩⟩
      case rest =>
       clear l4
       try clear c1
       try clear p2
       try clear c3
       try clear p3
       try clear q3
       try clear t1
       try clear c4
       try clear j6
       try clear j7
       try clear c5
       try clear j8
       try clear j9
       try clear p6
       try clear c9
       try clear k0
       try clear g6
       try clear e9
       try clear g9
       try clear m8
       try clear h1
       try clear h2
       try clear h3
       try clear h4
       try clear h5
       try clear h6
       try clear h7
       try clear i3
       try clear i4
       try clear i5
       try clear i6
       try clear i7
       try clear h8
       try clear h9
       try clear i0
       try clear i1
       try clear i2
       try clear i8
       try clear i9
       try clear j0
       try clear j1
       try clear j3
       try clear d0
       try clear d1
       try clear d2
       try clear p2
       try clear f1
       try clear p6
       try clear f2
       obtain ⟨kq, e5, f9, rfl, HA, m9, a7, b1, a6, HB⟩ := hcut
       cases kq with
       | zero => exact absurd HA.out (by simp [stanzaref07_Hyphens_Points.j2])
       | succ n0 =>
        have H := HA.out
        clear HA
        simp only [stanzaref07_Hyphens_Points.j2] at H
        replace H := Option.bind_eq_some_iff.mp H
        obtain ⟨c2, p7, H⟩ := H
        replace H : (stanzaref07_Hyphens_Points.l2 n0 l1 e3 c0 e5 f9 c2 1 l0_0 l0_1 l0_2 a8 a9) = some r := H
        have t2 := Aside0.mk p7
        clear p7
        have H' := Aside0.mk H
        clear H
        have n6 : wc.cell? ⟨b0, 0, none⟩ = some (.slice d3 l0_0.length d4) := (blk_cell a6.out 0).trans rfl
        have n7 : wc.cell? ⟨b0, 1, none⟩ = some (.slice d5 l0_1.length d6) := (blk_cell a6.out 1).trans rfl
        have n8 : wc.cell? ⟨b0, 2, none⟩ = some (.slice d7 l0_2.length d8) := (blk_cell a6.out 2).trans rfl
        have n9 : wc.cell? ⟨b0, 3, none⟩ = some (.int .i64 a8) := (blk_cell a6.out 3).trans rfl
        have o0 : wc.cell? ⟨b0, 4, none⟩ = some (.int .i64 a9) := (blk_cell a6.out 4).trans rfl
        have o1 := blk_frozen a6.out 0
        have o2 := blk_frozen a6.out 1
        have o3 := blk_frozen a6.out 2
        have o4 := blk_frozen a6.out 3
        have o5 := blk_frozen a6.out 4
        obtain ⟨s2, s3, s4⟩ := Kd.R_slice b1.out
        subst s4
        go_wp2_with (first | (go_at_call 37; (with_reducible refine (stanzaref07_Hyphens_Word.calls n0 _ _ l0_0 (fun k_ => k_ < w.heap.size) _ _ l0_1 _ _ l0_2 a8 a9 _ _ e5 c2 _ ?side1 ?side2 ?side3 ?side4 ?side5 ?side6 ?side7 t2.out).mono ?_); (case side1 => repeat (first | exact (Kd.C_below q7.out HB.out) | (with_reducible refine Kd.C_alloc ?_ _) | (with_reducible refine Kd.C_drewN ?_ _) | (with_reducible refine Kd.C_drew ?_))); (case side2 => exact q8.out); (case side3 => exact Kd.V_mk r0.out (Kd.F_below (Kd.C_F k39_heap q9.out) (by exact HB.out))); (case side4 => repeat (first | exact (Kd.C_below e7.out HB.out) | (with_reducible refine Kd.C_alloc ?_ _) | (with_reducible refine Kd.C_drewN ?_ _) | (with_reducible refine Kd.C_drew ?_))); (case side5 => exact e8.out); (case side6 => repeat (first | exact (Kd.R_reads' b1.out).2.2 | (with_reducible refine Kd.C_alloc ?_ _) | (with_reducible refine Kd.C_drewN ?_ _) | (with_reducible refine Kd.C_drew ?_))); (case side7 => exact (Kd.R_reads' b1.out).2.1); rintro e u4 ⟨p8, rfl, p9, hb⟩; have c6 := Aside0.mk (Kd.R_elder' (by exact a7.out) (Kd.R_base p9) hb); have c7 := Aside0.mk (Kd.R_below (by exact b1.out) hb); have c8 := Aside0.mk (Kd.R_lower (Kd.R_new' (Kd.R_mono (ok' := fun k_ => True) p9 (fun _ hk_ => trivial)) (Kd.R_lt (by exact a7.out))) (below_size (by exact HB.out))); have e2 := Aside0.mk (blk_below (g := b0) (o := .cells #[.slice d3 l0_0.length d4, .slice d5 l0_1.length d6, .slice d7 l0_2.length d8, .int .i64 a8, .int .i64 a9] 52 (0, 0)) (by exact a6.out) hb); have g7 := Aside0.mk (below_step (by exact HB.out) hb); clear a7; clear b1; clear a6; clear HB; have a7 := c6; have b1 := c7; have r3 := c8; have a6 := e2; have HB := g7; clear c6 c7 c8 e2 g7; (try clear hb); (try clear u5); (try clear hk); (try clear hi); (try clear p9)))
        go_loopg [12] n0 (fun kq t3 w' => ∃ (e4 : List Bool) (b2 : Int), t3 = .int .i64 b2 ∧ Aside0 (stanzaref07_Hyphens_Points.l2 kq l1 e4 c0 e5 f9 c2 b2 l0_0 l0_1 l0_2 a8 a9 = some r) ∧ Aside0 (kq ≤ n0) ∧ Aside0 (Kd.R Kd.bool 4 w' w.heap.size (fun k_ => some k_ ≠ (p8 : Value).ownBlock) g8 e4) ∧ Aside0 (Kd.R (Kd.int .i32) 21 w' w.heap.size (fun _ => True) (.slice s2 e5.length s3) e5) ∧ Aside0 (Kd.R Kd.bool 4 w' w.heap.size (fun k_ => some k_ ≠ (g8 : Value).ownBlock) p8 c2) ∧ Aside0 (w'.heap[b0]? = some (.cells #[(.slice d3 l0_0.length d4), (.slice d5 l0_1.length d6), (.slice d7 l0_2.length d8), .int .i64 a8, .int .i64 a9] 52 (0, 0))) ∧ Aside0 (Below w.heap.size w w'))
        case atStart => exact ⟨(e3), (1), (by first | rfl | (simp; done) | (simp [*]; done)), H', ⟨Nat.le_refl _⟩, ⟨by exact Kd.R_mono a7.out (fun _ hk => hk.2)⟩, ⟨by exact b1.out⟩, ⟨by exact Kd.R_mono r3.out (fun _ hk => hk.2)⟩, ⟨by exact a6.out⟩, ⟨by exact HB.out⟩⟩
        case round =>
         clear H'
         try clear c1
         try clear p2
         try clear c3
         try clear p3
         try clear q3
         try clear t1
         try clear c4
         try clear j6
         try clear j7
         try clear c5
         try clear j8
         try clear j9
         try clear p6
         try clear c9
         try clear k0
         try clear g6
         try clear e9
         try clear g9
         try clear m8
         try clear h1
         try clear h2
         try clear h3
         try clear h4
         try clear h5
         try clear h6
         try clear h7
         try clear i3
         try clear i4
         try clear i5
         try clear i6
         try clear i7
         try clear n6
         try clear n7
         try clear n8
         try clear n9
         try clear o0
         try clear h8
         try clear h9
         try clear i0
         try clear i1
         try clear i2
         try clear i8
         try clear i9
         try clear j0
         try clear j1
         try clear j3
         try clear o1
         try clear o2
         try clear o3
         try clear o4
         try clear o5
         try clear d0
         try clear d1
         try clear d2
         try clear p2
         try clear p3
         try clear f1
         try clear p6
         try clear q3
         try clear f2
         obtain ⟨e4, b2, rfl, HA, n1, a7, b1, e6, a6, HB⟩ := hrel
         cases gk with
         | zero => exact absurd HA.out (by simp [stanzaref07_Hyphens_Points.l2])
         | succ k3 =>
          have H := HA.out
          clear HA
          simp only [stanzaref07_Hyphens_Points.l2] at H
          by_cases j4 : b2 < (e5.length : Int)
          ·rw [if_pos j4] at H
           have r4 : decide (b2 < (e5.length : Int)) = true := decide_eq_true j4
           clear j4
           by_cases n2 : 0 ≤ b2
           ·rw [if_pos n2] at H
            have t6 : decide (0 ≤ b2) = true := decide_eq_true n2
            clear n2
            by_cases n3 : b2 < (c2.length : Int)
            ·rw [if_pos n3] at H
             have t7 : decide (b2 < (c2.length : Int)) = true := decide_eq_true n3
             clear n3
             obtain ⟨e1, k7⟩ : ∃ j_ : Int, (wrap64 (c0 + b2)) = j_ := ⟨_, rfl⟩
             replace H : (if 0 ≤ (e1) then (if (e1) < (e4.length : Int) then (stanzaref07_Hyphens_Points.l2 k3 l1 (e4.set ((e1) : Int).toNat (rdOf false c2 b2)) c0 e5 f9 c2 (wrap64 (b2 + 1)) l0_0 l0_1 l0_2 a8 a9) else (none)) else (none)) = some r := by first | (rw [k7] at H; exact H) | (simp only [k7] at H ⊢; exact H)
             have hji26w : (IntKind.i64.wrap (c0 + b2)) = e1 := (i64_w _).trans k7
             by_cases n4 : 0 ≤ (e1)
             ·rw [if_pos n4] at H
              have t8 : decide (0 ≤ (e1)) = true := decide_eq_true n4
              clear n4
              by_cases n5 : (e1) < (e4.length : Int)
              ·rw [if_pos n5] at H
               have t9 : decide ((e1) < (e4.length : Int)) = true := decide_eq_true n5
               clear n5
               obtain ⟨l6, g2⟩ : ∃ y_ : List Bool, y_ = (e4.set ((e1) : Int).toNat (rdOf false c2 b2)) := ⟨_, rfl⟩
               replace H : (stanzaref07_Hyphens_Points.l2 k3 l1 l6 c0 e5 f9 c2 (wrap64 (b2 + 1)) l0_0 l0_1 l0_2 a8 a9) = some r := by first | (rw [g2]; with_reducible exact H) | (have f8 := (Option.bind_some _ _).symm.trans H; rw [g2]; with_reducible exact f8) | (have f8 := (Option.bind_some _ _).symm.trans H; with_reducible exact f8) | with_reducible exact H | (rw [g2]; exact H) | exact H
               have r5 := Aside0.mk g2
               clear g2
               have H' := Aside0.mk H
               clear H
               obtain ⟨u0, s5, s6⟩ := Kd.R_slice e6.out
               subst s6
               have l7 : 0 ≤ (b2 : Int) := of_decide_eq_true (by first | (with_reducible assumption) | assumption)
               have l8 : b2 < (c2.length : Int) := of_decide_eq_true (by first | (with_reducible assumption) | assumption)
               obtain ⟨r6, s7, t0⟩ := Kd.at_bool (Kd.R_reads' e6.out).2.2 b2 l7 l8
               cases s7
               replace l7 := eq_true l7
               replace l8 := eq_true l8
               have q0 : 0 ≤ ((e1) : Int) := of_decide_eq_true (by first | (with_reducible assumption) | assumption)
               have q1 : ((e1) : Int) < ((e4.length : Int) : Int) := of_decide_eq_true (by first | (with_reducible assumption) | assumption)
               obtain ⟨g3, k8, q2, q4, s8, u1, q5⟩ := Kd.R_form a7.out (by omega)
               (first | cases q2 | (injection q2 with ea_ en_ ec_; (first | subst ea_ | (injection ea_ with ea_; subst ea_)); subst ec_; clear en_))
               have s9 := Aside0.mk q4
               have u2 := Aside0.mk q5
               clear q4 s8 q5
               obtain ⟨t4, hf29_0⟩ := Kd.R_celln false a7.out ((e1) : Int) q0 q1
               replace q0 := eq_true q0
               replace q1 := eq_true q1
               have k9 := Kd.R_putg a7.out ((e1) : Int) (rdOf false c2 b2)
               go_wp2_with (first | ((with_reducible refine gate_store (t := 4) (p := 62) rfl ?_); (try (rw [drewN_self wr]; generalize hq_ : World.drewN wr _ = wr; have c6 := Aside0.mk (Kd.R_at hq_ a7.out); have c7 := Aside0.mk (Kd.R_at hq_ b1.out); have c8 := Aside0.mk (Kd.R_at hq_ e6.out); have e2 := Aside0.mk (blk_at hq_ a6.out); have g7 := Aside0.mk (below_at hq_ HB.out); clear hq_ a7 b1 e6 a6 HB; have a7 := c6; have b1 := c7; have e6 := c8; have a6 := e2; have HB := g7; clear c6 c7 c8 e2 g7; (try (have k9 := Kd.R_putg a7.out ((e1) : Int) (rdOf false c2 b2))))); refine store_event (t := 4) (p := 62) (v := ?vo_w32) (w1 := (wr.setCell ⟨g3, ((e1) : Int).toNat, none⟩ (.bool (rdOf false c2 b2)))) ?hg ?ho ?hn ?hr ?_; (case ho => rfl); (case hg => rfl); (case hn => rfl); (case hr => first | (go_simp; done) | (go_simp; rfl)); intro q6 hw; have hg : wr.grownBy q6 (some g3) := (by rw [hw]; exact k9.2); have hp_ : Kd.R Kd.bool 4 q6 w.heap.size (fun k_ => some k_ ≠ (.slice (some r6) c2.length s5 : Value).ownBlock) (.slice (some ⟨g3, 0, none⟩) e4.length k8) l6 := (by rw [hw, r5.out]; exact k9.1); clear k9; have c6 := Aside0.mk (hp_); have c7 := Aside0.mk (Kd.R_over' (v := (.slice (some ⟨g3, 0, none⟩) e4.length k8)) (by exact b1.out) (Kd.R_typed a7.out) (by decide) hg); have c8 := Aside0.mk (Kd.R_after (v := (.slice (some ⟨g3, 0, none⟩) e4.length k8)) (v1 := (.slice (some ⟨g3, 0, none⟩) e4.length k8)) (ok := (fun _ => True)) (by exact Kd.R_mono e6.out (fun _ hk => ⟨trivial, hk⟩)) hg (.inl rfl)); have e2 := Aside0.mk (blk_grown (g := b0) (o := .cells #[.slice d3 l0_0.length d4, .slice d5 l0_1.length d6, .slice d7 l0_2.length d8, .int .i64 a8, .int .i64 a9] 52 (0, 0)) (by exact a6.out) hg (Kd.R_ne a7.out a6.out (by decide))); have g7 := Aside0.mk ((by rw [hw]; exact below_set (HB.out) s9.out : Below w.heap.size w q6)); clear a7; clear b1; clear e6; clear a6; clear HB; have a7 := c6; have b1 := c7; have e6 := c8; have a6 := e2; have HB := g7; clear c6 c7 c8 e2 g7; clear hg hw hp_))
               go_roundg k3
               case measure => have := g5.out; have := m9.out; have := n1.out; omega
               case rel => exact ⟨(l6), (wrap64 (b2 + 1)), (by first | rfl | (simp; done) | (simp [*]; done)), H', ⟨by have := g5.out; have := m9.out; have := n1.out; omega⟩, ⟨by exact a7.out⟩, ⟨by exact b1.out⟩, ⟨by exact Kd.R_mono e6.out (fun _ hk => hk.2)⟩, ⟨by exact a6.out⟩, ⟨by exact HB.out⟩⟩
              ·rw [if_neg n5] at H
               exact absurd H (by simp)
             ·rw [if_neg n4] at H
              exact absurd H (by simp)
            ·rw [if_neg n3] at H
             exact absurd H (by simp)
           ·rw [if_neg n2] at H
            exact absurd H (by simp)
          ·rw [if_neg j4] at H
           have r4 : decide (b2 < (e5.length : Int)) = false := decide_eq_false j4
           clear j4
           have H' := Aside0.mk H
           clear H
           go_wp2
           repeat (go_quiet (fail); try go_wp2)
           go_roundg k3
           case measure => have := g5.out; have := m9.out; have := n1.out; omega
           case rel => exact ⟨(e4), (wrap64 (f9 + 1)), (by first | rfl | (simp; done) | (simp [*]; done)), H', ⟨by have := g5.out; have := m9.out; have := n1.out; omega⟩, ⟨by exact Kd.R_mono a7.out (fun _ hk => trivial)⟩, ⟨by exact a6.out⟩, ⟨by exact HB.out⟩⟩
     ·rw [if_neg c9] at H
      have k0 : decide (c0 < (l1.length : Int)) = false := decide_eq_false c9
      clear c9
      obtain rfl := Option.some.inj H
      go_wp2
      repeat (go_quiet (fail); try go_wp2)
      go_ret
      exact ⟨_, by first | rfl | (simp [errW_none, errW_some] <;> rfl) | (simp only [← j5]; first | rfl | (simp [errW_none, errW_some] <;> rfl)) | (simp [*, errW_none, errW_some] <;> rfl), by exact a7.out, by exact HB.out⟩
  ·rw [if_neg c5] at H
   exact absurd H (by simp)
 ·rw [if_neg c4] at H
  exact absurd H (by simp)
end Go.Proofs.Ytoefjhdcipgacaa.PA
end
