/-
  Part 19 of what the law HyphApart rests on: contracts of the functions that it calls, and plain laws of what they compute.
-/
import Derived.Deep.RegionWith
import Derived.Deep.DeepCutAuto
import Derived.Test.YtoefjhdcipgacaaHA6
import Derived.Test.YtoefjhdcipgacaaHA15
import Derived.Test.YtoefjhdcipgacaaHA18
section
namespace Go.Proofs.Ytoefjhdcipgacaa.Hy
open Go.RowKit Go.Proofs.YtoefjhdcipgacaaW.PrintWords Go.Proofs.YtoefjhdcipgacaaW.PrintLast Go.Proofs.YtoefjhdcipgacaaW.PrintMore
open Go.Proofs.Ytoefjhdcipgacaa.PA
attribute [local go_sem] max2_int min2_int max_two min_two
theorem below_none {W w1 : World} (hg : W.grownBy w1 none) : Below W.heap.size W w1 := Below.grown (Below.refl _ _) hg (Nat.le_refl _) (fun k h => by cases h)
def ptAt (V : List Int) (n : Nat) (left right : Int) (j : Nat) : Bool := decide (left ≤ (j : Int)) && (decide ((j : Int) + right ≤ (n : Int)) && (Int.tmod (rd V (j : Int)) 2 == 1))
def pts (V : List Int) (n : Nat) (left right : Int) : List Bool := (List.range (n + 1)).map (ptAt V n left right)
theorem pts_length (V : List Int) (n : Nat) (left right : Int) : (pts V n left right).length = n + 1 := by simp [pts]
theorem pts_getD (V : List Int) (n : Nat) (left right : Int) (j : Nat) (h : j < n + 1) : (pts V n left right).getD j false = ptAt V n left right j := by
  simp [pts, List.getD_eq_getElem?_getD, h]
def wordVals (P W : List S39) (word : List Int) : List Int := match W.find? fun p => decide (p.f0 = word) with
  | some p => p.f1
  | none => Tr.values (Tr.make (P.map Tr.pq)) word
theorem wordVals_none {P W : List S39} {word : List Int} (h : ∀ p ∈ W, p.f0 ≠ word) : wordVals P W word = Tr.values (Tr.make (P.map Tr.pq)) word := by
  have : W.find? (fun p => decide (p.f0 = word)) = none := by
    rw [List.find?_eq_none]
    intro p hp
    simpa using h p hp
  rw [wordVals, this]
theorem find_first {W : List S39} {word : List Int} {j : Nat} (hj : j < W.length) (h1 : (rd_T39 W (j : Int)).f0 = word) (h2 : ∀ p ∈ W.take j, p.f0 ≠ word) : W.find? (fun p => decide (p.f0 = word)) = some (rd_T39 W (j : Int)) := by
  have e : W[j] = rd_T39 W (j : Int) := by simp [rd_T39, List.getD_eq_getElem?_getD, List.getElem?_eq_getElem hj]
  rw [List.find?_eq_some_iff_append]
  refine ⟨by simpa using h1, W.take j, W.drop (j + 1), ?_, fun p hp => by simpa using h2 p hp⟩
  rw [← e, List.getElem_cons_drop, List.take_append_drop]
theorem wordVals_some {P W : List S39} {word : List Int} {j : Nat} (hj : j < W.length) (h1 : (rd_T39 W (j : Int)).f0 = word) (h2 : ∀ p ∈ W.take j, p.f0 ≠ word) : wordVals P W word = (rd_T39 W (j : Int)).f1 := by
  rw [wordVals, find_first hj h1 h2]
theorem wordVals_length {P W : List S39} (word : List Int) (h : ∀ p ∈ W, p.f1.length = p.f0.length + 1) : (wordVals P W word).length = word.length + 1 := by
  unfold wordVals
  split
  · rename_i p hp
    have h1 := List.find?_some hp
    rw [h p (List.mem_of_find?_eq_some hp), of_decide_eq_true h1]
  · exact Tr.values_length _ _
def Upto (V : List Int) (n : Nat) (left right i : Int) (bs : List Bool) : Prop := bs.length = n + 1 ∧ ∀ j : Nat, j < n + 1 → bs.getD j false = (decide ((j : Int) < i) && ptAt V n left right j)
theorem upto_start (V : List Int) (n : Nat) (left right : Int) (_h : 1 ≤ left) : Upto V n left right left (List.replicate (n + 1) false) := by
  refine ⟨List.length_replicate, fun j hj => ?_⟩
  simp only [List.getD_eq_getElem?_getD, List.getElem?_replicate, hj, if_true, Option.getD_some, ptAt]
  by_cases h1 : (j : Int) < left
  · simp [show ¬ left ≤ (j : Int) by omega]
  · simp [h1]
theorem upto_step {V : List Int} {n : Nat} {left right i : Int} {bs : List Bool} (h : Upto V n left right i bs) (h0 : left ≤ i) (hl : 1 ≤ left) (hi : i + right ≤ n) : Upto V n left right (i + 1) (bs.set i.toNat (Int.tmod (rd V i) 2 == 1)) := by
  refine ⟨by rw [List.length_set]; exact h.1, fun j hj => ?_⟩
  rw [List.getD_eq_getElem?_getD, List.getElem?_set]
  by_cases e : i.toNat = j
  · have e' : (j : Int) = i := by omega
    rw [if_pos e, if_pos (by rw [e]; rw [h.1]; exact hj)]
    simp only [Option.getD_some, ptAt, e']
    simp [h0, hi, show i < i + 1 by omega]
  · rw [if_neg e, ← List.getD_eq_getElem?_getD, h.2 j hj]
    have e' : (j : Int) ≠ i := by omega
    congr 1
    exact decide_eq_decide.2 (by omega)
theorem upto_end {V : List Int} {n : Nat} {left right i : Int} {bs : List Bool} (h : Upto V n left right i bs) (hi : (n : Int) < i + right) : bs = pts V n left right := by
  apply List.ext_getElem (by rw [h.1, pts_length])
  intro j h1 h2
  have hj : j < n + 1 := by rw [h.1] at h1; exact h1
  have a := h.2 j hj
  rw [List.getD_eq_getElem?_getD, List.getElem?_eq_getElem h1, Option.getD_some] at a
  have b := pts_getD V n left right j hj
  rw [List.getD_eq_getElem?_getD, List.getElem?_eq_getElem h2, Option.getD_some] at b
  rw [a, b]
  by_cases hh : (j : Int) < i
  · simp [hh]
  · simp only [hh, decide_false, Bool.false_and, ptAt]
    have : ¬ ((j : Int) + right ≤ n) := by omega
    simp [this]
end Go.Proofs.Ytoefjhdcipgacaa.Hy
end
section
namespace Go.Proofs.Ytoefjhdcipgacaa.Hy
open Go.RowKit Go.Proofs.YtoefjhdcipgacaaW.PrintWords Go.Proofs.YtoefjhdcipgacaaW.PrintLast Go.Proofs.YtoefjhdcipgacaaW.PrintMore
open Go.Proofs.Ytoefjhdcipgacaa.PA
attribute [local go_sem] max2_int min2_int max_two min_two
set_option maxHeartbeats 8000000 in
set_option maxRecDepth 100000 in
theorem word_calls (b : Nat) (ls : List S63) (P Ws : List S39) (left right : Int) (La : Option Addr) (Lc bt base : Nat) (Wa : Option Addr) (Wc : Nat) (A : Option Addr) (c : Nat) (word : List Int) (w : World)
    (hH : HyphAt w b ls (Tr.make (P.map Tr.pq)) Ws left right La Lc bt base Wa Wc) (hw : Kd.C (Kd.int .i32) w A word.length word) (hwc : word.length ≤ c) (hfit : Tr.Fit P) (hwd : Tr.Word word)
    (hl : 1 ≤ left ∧ left ≤ 24) (hr : 1 ≤ right ∧ right ≤ 24) (hws : ∀ p ∈ Ws, p.f1.length = p.f0.length + 1) :
    Calls Try.prog 33 #[.pointer (some ⟨b, 0, none⟩), .slice A word.length c] w fun e w' => ∃ v, e = .returned v ∧ Kd.R Kd.bool 4 w' w.heap.size (fun _ => True) v (pts (wordVals P Ws word) word.length left right) ∧ Below w.heap.size w w' := by
  have hn : word.length ≤ 1000 := hwd.1
  have HH := Aside0.mk hH
  have HW := Aside0.mk hw
  have HWc := Aside0.mk hwc
  have HF := Aside0.mk hfit
  have HWD := Aside0.mk hwd
  have HWS := Aside0.mk hws
  clear hH hw hwc hfit hwd hws
  go_enter Try.func33, Try.ntmps33
  go_upto_region 4 with (first
    | ((with_reducible refine gate_dst (N := 3) rfl ?_); refine box_event ?hg (N := 3) ?hd (cs := #[.slice A word.length c]) (t := 23) ?hr ?_; (case hd => rfl); (case hg => rfl); (case hr => first | (go_simp; done) | (go_simp; rfl)); intro g3 hg w1 hbox hb; have HB := Aside0.mk hb; have BK3 := Aside0.mk hbox; have q3 : w1.cell? ⟨g3, 0, none⟩ = some (.slice A word.length c) := (blk_cell hbox 0).trans rfl; clear hb hbox hg)
    | ((with_reducible refine gate_dst (N := 12) rfl ?_); refine Kd.R_make Kd.bool _ 4 rfl (N := 12) rfl 58 _ _ rfl ((word.length : Int) + 1) rfl rfl Try.underlying58 (.bool false) 1 info4 rfl (by decide) (by omega) false (ok := fun _ => True) (okp := fun _ => True) rfl (fun _ hk => hk) trivial (by omega) (by omega) HB.out (below_size HB.out) ?_; intro v12 w12 ho hb hg_ hnew_; clear hnew_; replace BK3 := Aside0.mk (blk_grown BK3.out hg_ (by simp)); clear hg_; rw [show ((word.length : Int) + 1).toNat = word.length + 1 by omega] at ho; generalize hbs : List.replicate (word.length + 1) false = bs at ho; have HBS := Aside0.mk hbs; have HO := Aside0.mk ho; have hb1 := hb; replace HB := Aside0.mk hb; obtain ⟨Ao, co, rfl⟩ := Kd.R_slice ho; clear ho hb hbs))
  obtain ⟨go, co', e1, hge, hlt, cells, hcells⟩ := Kd.R_form HO.out (by rw [← HBS.out, List.length_replicate]; omega)
  injection e1 with e1 _ e2
  subst e1
  subst e2
  have GE := Aside0.mk hge
  have HNE := Aside0.mk (blk_ne BK3.out hcells (by decide))
  have HCE : Aside0 (∃ cells, w12.heap[go]? = some (.cells cells 4 (0, 0))) := ⟨⟨_, hcells⟩⟩
  have HBL : Aside0 (bs.length = word.length + 1) := ⟨by rw [← HBS.out, List.length_replicate]⟩
  clear hge hlt hcells
  obtain ⟨V0, hV0⟩ : ∃ V0, V0 = Tr.values (Tr.make (P.map Tr.pq)) word := ⟨_, rfl⟩
  have HV0 := Aside0.mk hV0
  clear hV0
  go_cut [6] (fun v6 wc => Aside0 (Kd.R (Kd.int .u8) 5 wc w.heap.size (fun _ => True) v6 V0) ∧ Aside0 (Kd.R Kd.bool 4 wc w.heap.size (fun _ => True) (.slice (some ⟨go, 0, none⟩) bs.length co) bs) ∧ Aside0 (wc.heap[g3]? = some (.cells #[.slice A word.length c] 23 (0, 0))) ∧ Aside0 (∃ cells, wc.heap[go]? = some (.cells cells 4 (0, 0))) ∧ Aside0 (Below w.heap.size w wc))
  case first =>
    have hBh := HH.out.below HB.out
    have q1 : w12.cell? ⟨b, 1, none⟩ = some (.pointer (some ⟨bt, 0, none⟩)) := (blk_cell hBh.blk 1).trans rfl
    have q2 : w12.cell? ⟨g3, 0, none⟩ = some (.slice A word.length c) := (blk_cell BK3.out 0).trans rfl
    have hD := below_drew (Below.refl w12.heap.size w12)
    have HT := Aside0.mk (hBh.trie.below hD)
    clear hBh
    replace HO := Aside0.mk (Kd.R_drew HO.out)
    replace BK3 := Aside0.mk (blk_below BK3.out hD)
    replace HCE := Aside0.mk (HCE.out.imp fun _ h => blk_below h hD)
    replace HB := Aside0.mk (below_drew HB.out)
    clear hD
    go_region_with (go_at_call 20; refine Calls.mono (Tr.values_fit P _ bt A c word _ HT.out (Kd.C_below HW.out HB.out) HWc.out HF.out HWD.out) ?_; rintro e wv ⟨vv, rfl, hV, hb⟩; rw [← HV0.out] at hV; have HV := Aside0.mk (Kd.R_lower hV (below_size HB.out)); replace HO := Aside0.mk (Kd.R_below HO.out hb); replace BK3 := Aside0.mk (blk_below BK3.out hb); replace HCE := Aside0.mk (HCE.out.imp fun _ h => blk_below h hb); replace HB := Aside0.mk (below_step HB.out hb); clear hb hV)
    all_goals go_wp2_with fail
    all_goals go_meet
    all_goals exact ⟨HV, HO, BK3, HCE, HB⟩
  case rest =>
    obtain ⟨HV, HO', BK3', HCE', HB'⟩ := hcut
    clear HO BK3 HCE HB
    obtain ⟨V, hV⟩ : ∃ V, V = wordVals P Ws word := ⟨_, rfl⟩
    have HVE := Aside0.mk hV
    have HVL : Aside0 (V.length = word.length + 1) := ⟨by rw [hV]; exact wordVals_length word HWS.out⟩
    clear hV
    rename_i v6
    have HWc' := Aside0.mk (HH.out.below HB'.out).words
    have q1 : wc.cell? ⟨b, 2, none⟩ = some (.slice Wa Ws.length Wc) := (blk_cell (HH.out.below HB'.out).blk 2).trans rfl
    go_upto_if 29 with (go_at_call 45; refine (indexTold_calls Ws Wa Wc g3 A c word _ HWc'.out (Kd.C_below HW.out HB'.out) BK3'.out).mono ?_; rintro e we ⟨i, rfl, hF, hb⟩; have HFi := Aside0.mk hF; replace HV := Aside0.mk (Kd.R_below HV.out hb); replace HCE' := Aside0.mk (HCE'.out.imp fun _ h => blk_below h hb); replace HO' := Aside0.mk (Kd.R_below HO'.out hb); replace BK3' := Aside0.mk (blk_below BK3'.out hb); replace HB' := Aside0.mk (below_step HB'.out hb); clear hb hF)
    go_cut [6] (fun v6 wd => wd = we ∧ ∃ AV cV, v6 = .slice AV V.length cV ∧ Aside0 (∀ w' : World, Below w.heap.size w w' → (∀ k, k ≠ go → w'.heap[k]? = we.heap[k]?) → Kd.C (Kd.int .u8) w' AV V.length V))
    case first =>
      rcases HFi.out with ⟨rfl, h⟩ | ⟨j, rfl, hj, hj1, hj2⟩
      · obtain ⟨AV, cV, rfl⟩ := Kd.R_slice HV.out
        have hve : V = V0 := by rw [HVE.out, HV0.out]; exact wordVals_none h
        have HVV := Aside0.mk hve
        clear h hve
        go_wp2_with fail
        go_meet
        case rel =>
          refine ⟨rfl, AV, cV, by rw [HVV.out], ⟨fun w' _ hk => ?_⟩⟩
          rw [HVV.out]
          obtain ⟨cs, hcs⟩ := HCE'.out
          exact (Kd.R_reads' (Kd.R_move (Kd.R_types HV.out hcs (by decide)) (fun k hk' => hk k hk'.2))).2.2
      · obtain ⟨p, hp⟩ : ∃ p, p = rd_T39 Ws (j : Int) := ⟨_, rfl⟩
        have hve : V = p.f1 := by rw [HVE.out, hp]; exact wordVals_some hj hj1 hj2
        obtain ⟨ad, A0, c0, A1, c1, e1, hx0, hx1, _, _, _, hi1⟩ := at_T39 HH.out.words (j : Int) (by omega) (by omega)
        subst e1
        rw [← hp, ← hve] at hi1 hx1
        have HI := Aside0.mk hi1
        replace hx1 := (HB'.out.cell (World.block_lt_of_cell? w _ hx1)).trans hx1
        have q5 : we.cell? ⟨b, 2, none⟩ = some (.slice (some ad) Ws.length Wc) := (blk_cell (HH.out.below HB'.out).blk 2).trans rfl
        simp only [Int.toNat_natCast] at hx1
        have p1 : (0 : Int) ≤ (j : Int) := by omega
        have p2 : (j : Int) < (Ws.length : Int) := by omega
        clear hi1 hve hj1 hj2 hx0 hp hj q1
        go_wp2_with fail
        go_meet
        case rel =>
          refine ⟨rfl, A1, c1, rfl, ⟨fun w' hb _ => Kd.C_below HI.out hb⟩⟩
    case rest =>
      obtain ⟨hwe, AV, cV, rfl, HVC⟩ := hcut
      subst hwe
      rename World => wz
      clear HV HFi HWc' q1
      have q3 : wz.cell? ⟨b, 3, none⟩ = some (.int .i64 left) := (blk_cell (HH.out.below HB'.out).blk 3).trans rfl
      obtain ⟨ad0, hAV, _⟩ := Kd.at_int (HVC.out wz HB'.out (fun _ _ => rfl)) 0 (by omega) (by have := HVL.out; omega)
      subst hAV
      have HUP : Aside0 (Upto V word.length left right left bs) := ⟨by rw [← HBS.out]; exact upto_start V word.length left right hl.1⟩
      obtain ⟨g0, hg0⟩ : ∃ g0 : Nat, (g0 : Int) + left = (word.length : Int) + 100 := ⟨((word.length : Int) + 100 - left).toNat, by omega⟩
      have HG0 := Aside0.mk hg0
      clear hg0
      go_wp2_with fail
      clear q3
      go_loopg [8] g0 (fun g v8 w' => ∃ (j : Int) (bs2 : List Bool), v8 = .int .i64 j ∧ Aside0 (Kd.R Kd.bool 4 w' w.heap.size (fun _ => True) (.slice (some ⟨go, 0, none⟩) bs.length co) bs2) ∧ Aside0 (Upto V word.length left right j bs2) ∧ Aside0 ((g : Int) + j = (word.length : Int) + 100) ∧ Aside0 (left ≤ j) ∧ Aside0 (∀ k, k ≠ go → w'.heap[k]? = wz.heap[k]?) ∧ Aside0 (Below w.heap.size w w'))
      case atStart => exact ⟨left, bs, rfl, HO', HUP, HG0, ⟨Int.le_refl _⟩, ⟨fun _ _ => rfl⟩, HB'⟩
      case round =>
        obtain ⟨j, bs2, rfl, HOr, HUr, HGr, HLr, HKr, HBr⟩ := hrel
        have b1 : 1 ≤ j := by have := HLr.out; omega
        have b2 : j ≤ (word.length : Int) + 100 := by have := HGr.out; omega
        have q4 : wr.cell? ⟨b, 4, none⟩ = some (.int .i64 right) := (blk_cell (HH.out.below HBr.out).blk 4).trans rfl
        have q5 : wr.cell? ⟨g3, 0, none⟩ = some (.slice A word.length c) := (blk_cell ((HKr.out g3 HNE.out).trans BK3'.out) 0).trans rfl
        go_upto_region 9 with fail
        go_cut [50] (fun v50 wx => v50 = .bool (decide (j ≤ (word.length : Int) - right)) ∧ Aside0 (Kd.R Kd.bool 4 wx w.heap.size (fun _ => True) (.slice (some ⟨go, 0, none⟩) bs.length co) bs2) ∧ Aside0 (∀ k, k ≠ go → wx.heap[k]? = wz.heap[k]?) ∧ Aside0 (Below w.heap.size w wx))
        case first =>
          go_region
          all_goals go_wp2_with fail
          all_goals go_meet
          all_goals exact ⟨rfl, ⟨Kd.R_drew HOr.out⟩, ⟨fun k hk => HKr.out k hk⟩, ⟨below_drew HBr.out⟩⟩
        case rest =>
          obtain ⟨hv50, HOx, HKx, HBx⟩ := hcut
          clear HOr HKr HBr q4 q5
          by_cases hc : j ≤ (word.length : Int) - right
          · rw [decide_eq_true hc] at hv50
            subst hv50
            have hlV : j < (V.length : Int) := by have := HVL.out; omega
            have hlB : j < (bs.length : Int) := by have := HBL.out; omega
            have h0j : (0 : Int) ≤ j := by omega
            obtain ⟨ad, e, hx⟩ := Kd.at_int (HVC.out wc HBx.out HKx.out) j h0j hlV
            injection e with e
            subst e
            obtain ⟨hy, hyf⟩ := Kd.R_celln false HOx.out j h0j hlB
            have HPG := Kd.R_putg HOx.out j (Int.tmod (rd V j) 2 == 1)
            have HC := Aside0.mk hc
            clear hc
            go_wp2_with ((with_reducible refine gate_store (t := 4) (p := 61) rfl ?_); refine store_event (t := 4) (p := 61) (v := ?vo) (w1 := (wc.setCell ⟨go, j.toNat, none⟩ (.bool (Int.tmod (rd V j) 2 == 1)))) ?hg ?ho ?hn ?hr ?_; (case ho => rfl); (case hg => rfl); (case hn => rfl); (case hr => first | (go_simp; done) | (go_simp; rfl)); intro w29 hw; have HO2 := Aside0.mk (show Kd.R Kd.bool 4 w29 w.heap.size (fun _ => True) (.slice (some ⟨go, 0, none⟩) bs.length co) (bs2.set j.toNat (Int.tmod (rd V j) 2 == 1)) by rw [hw]; exact HPG.1); have HK2 : Aside0 (∀ k, k ≠ go → w29.heap[k]? = wz.heap[k]?) := ⟨fun k hk => by rw [hw]; exact (Below.heap_setCell wc _ _ k hk).trans (HKx.out k hk)⟩; have HB2 : Aside0 (Below w.heap.size w w29) := ⟨by rw [hw]; exact below_set HBx.out GE.out⟩; clear hw HPG hy hyf)
            go_roundg (gk - 1)
            case measure => have := HGr.out; have := HC.out; omega
            case rel => exact ⟨j + 1, _, by go_num, HO2, ⟨upto_step HUr.out HLr.out hl.1 (by have := HC.out; omega)⟩, ⟨by have := HGr.out; have := HC.out; omega⟩, ⟨by have := HLr.out; omega⟩, HK2, HB2⟩
          · rw [decide_eq_false hc] at hv50
            subst hv50
            have hE : bs2 = pts V word.length left right := upto_end HUr.out (by omega)
            have HE := Aside0.mk hE
            clear hE hc
            go_wp2_with fail
            go_ret
            exact ⟨_, rfl, by rw [← HVE.out, ← HE.out]; exact HOx.out, HBx.out⟩
end Go.Proofs.Ytoefjhdcipgacaa.Hy
end
section
namespace Go.Proofs.Ytoefjhdcipgacaa.Hy
open Go.RowKit Go.Proofs.YtoefjhdcipgacaaW.PrintWords Go.Proofs.YtoefjhdcipgacaaW.PrintLast Go.Proofs.YtoefjhdcipgacaaW.PrintMore
open Go.Proofs.Ytoefjhdcipgacaa.PA
attribute [local go_sem] max2_int min2_int max_two min_two
def Rise (ls : List S63) : Prop := ∀ i j : Nat, i ≤ j → j < ls.length → (rd_T63 ls (i : Int)).f1 ≤ (rd_T63 ls (j : Int)).f1
def Cut (ls : List S63) (r : Int) (i : Nat) : Prop := i ≤ ls.length ∧ (∀ m : Nat, m < i → (rd_T63 ls (m : Int)).f1 < r) ∧ ∀ m : Nat, i ≤ m → m < ls.length → r ≤ (rd_T63 ls (m : Int)).f1
set_option maxHeartbeats 8000000 in
set_option maxRecDepth 100000 in
theorem search_calls (b2 b3 b : Nat) (r : Int) (ls : List S63) (La : Option Addr) (Lc : Nat) (v1 v2 v3 v4 : Value) (w : World) (h2 : w.heap[b2]? = some (.cells #[.pointer (some ⟨b, 0, none⟩)] 43 (0, 0))) (h3 : w.heap[b3]? = some (.cells #[.int .i32 r] 21 (0, 0)))
    (hb : w.heap[b]? = some (.cells #[.slice La ls.length Lc, v1, v2, v3, v4] 95 (0, 0))) (hl : Kd.C k63 w La ls.length ls) (hr : Rise ls) (h8 : ls.length ≤ 1000000) :
    Calls Try.prog 48 #[.int .i64 (ls.length : Int), .func (.func 49) #[] #[.pointer (some ⟨b2, 0, none⟩), .pointer (some ⟨b3, 0, none⟩)]] w fun e w' => ∃ i : Nat, e = .returned (.int .i64 (i : Int)) ∧ Cut ls r i ∧ ∃ nd, w' = w.drewN nd := by
  have H2 := Aside0.mk h2
  have H3 := Aside0.mk h3
  have HB := Aside0.mk hb
  have HL := Aside0.mk hl
  have HR := Aside0.mk hr
  clear h2 h3 hb hl hr
  go_enter Try.func48, Try.ntmps48
  go_wp2_with fail
  go_loopg [5, 6] (ls.length + 1) (fun g v5 v6 w' => ∃ i j : Nat, v5 = .int .i64 (i : Int) ∧ v6 = .int .i64 (j : Int) ∧ Aside0 (g = j - i + 1) ∧ Aside0 (i ≤ j ∧ j ≤ ls.length) ∧ Aside0 ((∀ m : Nat, m < i → (rd_T63 ls (m : Int)).f1 < r) ∧ ∀ m : Nat, j ≤ m → m < ls.length → r ≤ (rd_T63 ls (m : Int)).f1) ∧ Aside0 (∃ nd, w' = w.drewN nd))
  case atStart => exact ⟨0, ls.length, rfl, rfl, ⟨by omega⟩, ⟨by omega⟩, ⟨fun m h => absurd h (Nat.not_lt_zero m), fun m h1 h2 => by omega⟩, ⟨0, rfl⟩⟩
  case round =>
    obtain ⟨i, j, rfl, rfl, HG, HIJ, HM, HW⟩ := hrel
    have hij := HIJ.out
    by_cases hc : i < j
    · obtain ⟨h, hh⟩ : ∃ h : Nat, h = (i + j) / 2 := ⟨_, rfl⟩
      have hh1 : i ≤ h ∧ h < j := by omega
      go_upto_region 3 with fail
      go_cut [7] (fun v7 wc => wc = wr ∧ v7 = .int .i64 (h : Int))
      case first =>
        go_wp2_with fail
        go_meet
        case rel => exact ⟨rfl, by rw [hh]; simp⟩
      case rest =>
        obtain ⟨rfl, rfl⟩ := hcut
        have hhl : Aside0 (h < ls.length) := ⟨by omega⟩
        have HH1 := Aside0.mk hh1
        have HH2 := Aside0.mk hij
        have hbd : (h : Int) ≤ 1000000 := by omega
        have hbd0 : (0 : Int) ≤ (h : Int) := by omega
        clear hh hh1 hij hc
        have K2 : Aside0 (wc.heap[b2]? = some (.cells #[.pointer (some ⟨b, 0, none⟩)] 43 (0, 0))) := ⟨by obtain ⟨nd, e1⟩ := HW.out; rw [e1]; exact blk_drewN H2.out nd⟩
        have K3 : Aside0 (wc.heap[b3]? = some (.cells #[.int .i32 r] 21 (0, 0))) := ⟨by obtain ⟨nd, e1⟩ := HW.out; rw [e1]; exact blk_drewN H3.out nd⟩
        have KB : Aside0 (wc.heap[b]? = some (.cells #[.slice La ls.length Lc, v1, v2, v3, v4] 95 (0, 0))) := ⟨by obtain ⟨nd, e1⟩ := HW.out; rw [e1]; exact blk_drewN HB.out nd⟩
        have KL : Aside0 (Kd.C k63 wc La ls.length ls) := ⟨by obtain ⟨nd, e1⟩ := HW.out; rw [e1]; exact Kd.C_drewN HL.out nd⟩
        by_cases hp : r ≤ (rd_T63 ls (h : Int)).f1
        · have hD : Aside0 (decide (r ≤ (rd_T63 ls (h : Int)).f1) = true) := ⟨decide_eq_true hp⟩
          have HPr := Aside0.mk hp
          clear hp
          go_wp2_with (go_at_call 49; refine (hi_calls h b2 b3 b r ls La Lc v1 v2 v3 v4 _ hhl.out K2.out K3.out KB.out KL.out).mono ?_; rw [hD.out]; rintro e w2 ⟨rfl, nd2, hw2⟩; have HW2 : Aside0 (∃ nd, w2 = w.drewN nd) := ⟨by obtain ⟨nd, e1⟩ := HW.out; exact ⟨nd + nd2, by rw [hw2, e1, World.drewN_drewN]⟩⟩; clear hw2)
          go_roundg (h - i + 1)
          case measure => have := HG.out; have := HH1.out; have := HH2.out; omega
          case rel => exact ⟨i, h, rfl, rfl, ⟨rfl⟩, ⟨by have := HH1.out; have := HH2.out; omega⟩, ⟨HM.out.1, fun m m1 m2 => Int.le_trans HPr.out (HR.out h m m1 m2)⟩, HW2⟩
        · have hD : Aside0 (decide (r ≤ (rd_T63 ls (h : Int)).f1) = false) := ⟨decide_eq_false hp⟩
          have HPr := Aside0.mk hp
          clear hp
          go_wp2_with (go_at_call 49; refine (hi_calls h b2 b3 b r ls La Lc v1 v2 v3 v4 _ hhl.out K2.out K3.out KB.out KL.out).mono ?_; rw [hD.out]; rintro e w2 ⟨rfl, nd2, hw2⟩; have HW2 : Aside0 (∃ nd, w2 = w.drewN nd) := ⟨by obtain ⟨nd, e1⟩ := HW.out; exact ⟨nd + nd2, by rw [hw2, e1, World.drewN_drewN]⟩⟩; clear hw2)
          go_roundg (j - (h + 1) + 1)
          case measure => have := HG.out; have := HH1.out; have := HH2.out; omega
          case rel => exact ⟨h + 1, j, by go_num, rfl, ⟨rfl⟩, ⟨by have := HH1.out; have := HH2.out; omega⟩, ⟨fun m m1 => by have := HR.out m h (by omega) hhl.out; have := HPr.out; omega, HM.out.2⟩, HW2⟩
    · have hje : i = j := by omega
      subst hje
      go_wp2_with fail
      go_ret
      exact ⟨i, rfl, ⟨hij.2, HM.out.1, HM.out.2⟩, HW.out⟩
end Go.Proofs.Ytoefjhdcipgacaa.Hy
end
section
namespace Go.Proofs.Ytoefjhdcipgacaa.Hy
open Go.RowKit Go.Proofs.YtoefjhdcipgacaaW.PrintWords Go.Proofs.YtoefjhdcipgacaaW.PrintLast Go.Proofs.YtoefjhdcipgacaaW.PrintMore
open Go.Proofs.Ytoefjhdcipgacaa.PA
attribute [local go_sem] max2_int min2_int max_two min_two
def LsOk (ls : List S63) : Prop := ls.length ≤ 256 ∧ (∀ i : Nat, i < ls.length → 0 ≤ (rd_T63 ls (i : Int)).f0 ∧ (rd_T63 ls (i : Int)).f0 ≤ (rd_T63 ls (i : Int)).f1 ∧ (rd_T63 ls (i : Int)).f1 ≤ 1114111 ∧ 0 ≤ (rd_T63 ls (i : Int)).f2 ∧ (rd_T63 ls (i : Int)).f2 + (rd_T63 ls (i : Int)).f1 - (rd_T63 ls (i : Int)).f0 ≤ 1114111) ∧
  ∀ i j : Nat, i < j → j < ls.length → (rd_T63 ls (i : Int)).f1 < (rd_T63 ls (j : Int)).f0
theorem LsOk.rise {ls : List S63} (h : LsOk ls) : Rise ls := by
  intro i j hij hj
  rcases Nat.lt_or_ge i j with h1 | h1
  · have := h.2.2 i j h1 hj
    have := (h.2.1 j hj).2.1
    omega
  · rw [show i = j by omega]; exact Int.le_refl _
theorem rd63 {ls : List S63} {i : Nat} (h : i < ls.length) : rd_T63 ls (i : Int) = ls[i] := by simp [rd_T63, List.getD_eq_getElem?_getD, List.getElem?_eq_getElem h]
def letOf (ls : List S63) (r : Int) : Int × Bool := match ls.find? fun x => decide (x.f0 ≤ r ∧ r ≤ x.f1) with
  | some x => (x.f2 + r - x.f0, true)
  | none => (0, false)
theorem letOf_some {ls : List S63} {r : Int} {i : Nat} (h : i < ls.length) (h1 : (rd_T63 ls (i : Int)).f0 ≤ r) (hc : Cut ls r i) : letOf ls r = ((rd_T63 ls (i : Int)).f2 + r - (rd_T63 ls (i : Int)).f0, true) := by
  have : ls.find? (fun x => decide (x.f0 ≤ r ∧ r ≤ x.f1)) = some (rd_T63 ls (i : Int)) := by
    rw [List.find?_eq_some_iff_append]
    refine ⟨by simpa using ⟨h1, hc.2.2 i (Nat.le_refl _) h⟩, ls.take i, ls.drop (i + 1), ?_, fun p hp => ?_⟩
    · rw [rd63 h, List.getElem_cons_drop, List.take_append_drop]
    · obtain ⟨m, hm, rfl⟩ := List.getElem_of_mem hp
      rw [List.length_take] at hm
      have := hc.2.1 m (by omega)
      rw [rd63 (show m < ls.length by omega)] at this
      rw [List.getElem_take]
      simp only [Bool.not_eq_true', decide_eq_false_iff_not]
      omega
  rw [letOf, this]
theorem letOf_none {ls : List S63} {r : Int} {i : Nat} (hok : LsOk ls) (hc : Cut ls r i) (h : i < ls.length → r < (rd_T63 ls (i : Int)).f0) : letOf ls r = (0, false) := by
  have : ls.find? (fun x => decide (x.f0 ≤ r ∧ r ≤ x.f1)) = none := by
    rw [List.find?_eq_none]
    intro p hp
    obtain ⟨m, hm, rfl⟩ := List.getElem_of_mem hp
    rw [← rd63 hm]
    simp only [decide_eq_true_eq]
    rintro ⟨a1, a2⟩
    rcases Nat.lt_or_ge m i with h1 | h1
    · have := hc.2.1 m h1; omega
    · have hi := h (by omega)
      rcases Nat.lt_or_ge i m with h2 | h2
      · have := hok.2.2 i m h2 hm
        have := (hok.2.1 i (by omega)).2.1
        omega
      · rw [show m = i by omega] at a1; omega
  rw [letOf, this]
set_option maxHeartbeats 8000000 in
set_option maxRecDepth 100000 in
theorem letter_calls (b : Nat) (ls : List S63) (T : Tr.TM) (Ws : List S39) (left right : Int) (La : Option Addr) (Lc bt base : Nat) (Wa : Option Addr) (Wc : Nat) (r : Int) (w : World) (hH : HyphAt w b ls T Ws left right La Lc bt base Wa Wc) (hok : LsOk ls) :
    Calls Try.prog 39 #[.pointer (some ⟨b, 0, none⟩), .int .i32 r] w fun e w' => e = .returned (.tuple #[.int .i32 (letOf ls r).1, .bool (letOf ls r).2]) ∧ Below w.heap.size w w' := by
  have HH := Aside0.mk hH
  have HK := Aside0.mk hok
  clear hH hok
  go_enter Try.func39, Try.ntmps39
  go_upto_region 4 with (first
    | ((with_reducible refine gate_dst (N := 2) rfl ?_); refine box_event ?hg (N := 2) ?hd (cs := #[.pointer (some ⟨b, 0, none⟩)]) (t := 43) ?hr ?_; (case hd => rfl); (case hg => rfl); (case hr => first | (go_simp; done) | (go_simp; rfl)); intro g2 hg w1 hbox hb; have HB := Aside0.mk hb; have BK2 := Aside0.mk hbox; clear hb hbox hg)
    | ((with_reducible refine gate_dst (N := 3) rfl ?_); refine box_event ?hg (N := 3) ?hd (cs := #[.int .i32 r]) (t := 21) ?hr ?_; (case hd => rfl); (case hg => rfl); (case hr => first | (go_simp; done) | (go_simp; rfl)); intro g3 hg w2 hbox hb; replace BK2 := Aside0.mk (blk_below BK2.out hb); have BK3 := Aside0.mk hbox; replace HB := Aside0.mk (below_step HB.out hb); have q2 : w2.cell? ⟨g2, 0, none⟩ = some (.pointer (some ⟨b, 0, none⟩)) := (blk_cell BK2.out 0).trans rfl; have q3 : w2.cell? ⟨b, 0, none⟩ = some (.slice La ls.length Lc) := (blk_cell (HH.out.below HB.out).blk 0).trans rfl; clear hb hbox hg)
    | (go_at_call 48; refine (search_calls g2 g3 b r ls La Lc _ _ _ _ _ BK2.out BK3.out (HH.out.below HB.out).blk (HH.out.below HB.out).lets HK.out.rise (by have := HK.out.1; omega)).mono ?_; rintro e w3 ⟨i, rfl, hcut, nd, hw3⟩; have HC := Aside0.mk hcut; have hb : Below w2.heap.size w2 w3 := (by rw [hw3]; exact pw_below_drewN (Below.refl _ _) _); replace BK2 := Aside0.mk (blk_below BK2.out hb); replace BK3 := Aside0.mk (blk_below BK3.out hb); replace HB := Aside0.mk (below_step HB.out hb); clear hb hcut hw3 q2 q3))
  have q2 : w3.cell? ⟨g2, 0, none⟩ = some (.pointer (some ⟨b, 0, none⟩)) := (blk_cell BK2.out 0).trans rfl
  have q4 : w3.cell? ⟨g3, 0, none⟩ = some (.int .i32 r) := (blk_cell BK3.out 0).trans rfl
  have hL := Aside0.mk (HH.out.below HB.out).lets
  have q3 : w3.cell? ⟨b, 0, none⟩ = some (.slice La ls.length Lc) := (blk_cell (HH.out.below HB.out).blk 0).trans rfl
  have hle := HC.out.1
  have hl8 := HK.out.1
  by_cases hi : i < ls.length
  · obtain ⟨ad, e1, hx0, hx1, hx2⟩ := at_T63 hL.out (i : Int) (by omega) (by omega)
    subst e1
    rw [Int.toNat_natCast] at hx0 hx1 hx2
    obtain ⟨p, hp⟩ : ∃ p, p = rd_T63 ls (i : Int) := ⟨_, rfl⟩
    have hpk := HK.out.2.1 i hi
    have hpc := HC.out.2.2 i (Nat.le_refl _) hi
    rw [← hp] at hx0 hx1 hx2 hpk hpc
    have HPe := Aside0.mk hp
    have p1 : (0 : Int) ≤ (i : Int) := by omega
    have q1 : (i : Int) < (ls.length : Int) := by omega
    have hne : ¬ (i : Int) = (ls.length : Int) := by omega
    have hne1 : ((i : Int) == (ls.length : Int)) = false := by simpa using hne
    have hne2 : ¬ i = ls.length := by omega
    have hne3 : (i == ls.length) = false := by simpa using hne2
    have HI := Aside0.mk hi
    by_cases hlo : r < p.f0
    · have hgt : p.f0 > r := hlo
      have hgd : decide (r < p.f0) = true := decide_eq_true hlo
      have hres : letOf ls r = (0, false) := letOf_none HK.out HC.out (fun _ => by rw [← hp]; exact hlo)
      have HRS := Aside0.mk hres
      clear hp hi hres hpk hpc
      go_region
      all_goals go_wp2_with fail
      all_goals go_ret2
      all_goals exact ⟨by rw [HRS.out]; rfl, below_drew HB.out⟩
    · have hgd : decide (r < p.f0) = false := decide_eq_false hlo
      have hres : letOf ls r = (p.f2 + r - p.f0, true) := by rw [hp]; exact letOf_some hi (by rw [← hp]; omega) HC.out
      have HRS := Aside0.mk hres
      clear hp hi hres
      go_cut [34] (fun v34 wc => v34 = .bool false ∧ wc = w3.drew)
      case first =>
        go_region
        all_goals go_wp2_with fail
        all_goals go_meet
        all_goals exact ⟨rfl, rfl⟩
      case rest =>
        obtain ⟨rfl, rfl⟩ := hcut
        go_upto_region 6 with fail
        go_region
        all_goals go_wp2_with fail
        all_goals go_ret2
        all_goals exact ⟨by rw [HRS.out]; rfl, below_drew (below_drew HB.out)⟩
  · have hie : i = ls.length := by omega
    have hres : letOf ls r = (0, false) := letOf_none HK.out HC.out (fun h => absurd h hi)
    have HRS := Aside0.mk hres
    subst hie
    clear hi hres
    go_region
    all_goals go_wp2_with fail
    all_goals go_ret2
    all_goals exact ⟨by rw [HRS.out]; rfl, below_drew HB.out⟩
end Go.Proofs.Ytoefjhdcipgacaa.Hy
end
section
namespace Go.Proofs.Ytoefjhdcipgacaa.Hy
open Go.RowKit Go.Proofs.YtoefjhdcipgacaaW.PrintWords Go.Proofs.YtoefjhdcipgacaaW.PrintLast Go.Proofs.YtoefjhdcipgacaaW.PrintMore
open Go.Proofs.Ytoefjhdcipgacaa.PA
def runOf (ls : List S63) : List S66 → List Int
  | [] => []
  | s :: t => if (letOf ls s.f0).2 = true then (letOf ls s.f0).1 :: runOf ls t else []
theorem runOf_le (ls : List S63) (l : List S66) : (runOf ls l).length ≤ l.length := by
  induction l with
  | nil => exact Nat.le_refl _
  | cons s t ih =>
    rw [runOf]
    split
    · rw [List.length_cons, List.length_cons]; omega
    · exact Nat.zero_le _
def pointsOf (ls : List S63) (P Ws : List S39) (left right : Int) : Nat → List S66 → List Bool
  | 0, _ => [false]
  | _ + 1, [] => [false]
  | f + 1, l => (pts (wordVals P Ws (runOf ls l)) (runOf ls l).length left right).take (runOf ls l).length ++ (if (runOf ls l).length < l.length then false :: pointsOf ls P Ws left right f (l.drop ((runOf ls l).length + 1)) else [false])
theorem pts_take (V : List Int) (n : Nat) (left right : Int) : ((pts V n left right).take n).length = n := by
  rw [List.length_take, pts_length]; omega
theorem pointsOf_end (ls : List S63) (P Ws : List S39) (left right : Int) (f : Nat) : pointsOf ls P Ws left right f [] = [false] := by
  cases f <;> rfl
end Go.Proofs.Ytoefjhdcipgacaa.Hy
end
section
namespace Go.Proofs.Ytoefjhdcipgacaa.Hy
open Go.RowKit Go.Proofs.YtoefjhdcipgacaaW.PrintWords Go.Proofs.YtoefjhdcipgacaaW.PrintLast Go.Proofs.YtoefjhdcipgacaaW.PrintMore
open Go.Proofs.Ytoefjhdcipgacaa.PA
attribute [local go_sem] max2_int min2_int max_two min_two
set_option linter.unusedVariables false
def PInv (ls : List S63) (P Ws : List S39) (left right : Int) (l : List S66) (i : Nat) (bs : List Bool) : Prop :=
  bs.length = l.length + 1 ∧ (∀ j, i ≤ j → bs.getD j false = false) ∧ ((i ≤ l.length ∧ ∀ f, l.length - i ≤ f → bs.take i ++ pointsOf ls P Ws left right f (l.drop i) = pointsOf ls P Ws left right l.length l) ∨ (i = l.length + 1 ∧ bs = pointsOf ls P Ws left right l.length l))
theorem points_fuel (ls : List S63) (P Ws : List S39) (left right : Int) (f : Nat) : ∀ (g : Nat) (l : List S66), l.length ≤ f → l.length ≤ g → pointsOf ls P Ws left right f l = pointsOf ls P Ws left right g l := by
  induction f with
  | zero =>
    intro g l hf _
    obtain rfl : l = [] := List.eq_nil_of_length_eq_zero (by omega)
    rw [pointsOf_end, pointsOf_end]
  | succ f ih =>
    intro g l hf hg
    cases l with
    | nil => rw [pointsOf_end, pointsOf_end]
    | cons s t =>
      obtain ⟨g, rfl⟩ : ∃ g', g = g' + 1 := ⟨g - 1, by rw [List.length_cons] at hg; omega⟩
      rw [pointsOf, pointsOf]
      · rw [ih g _ (by rw [List.length_drop]; omega) (by rw [List.length_drop]; omega)]
      · exact List.cons_ne_nil s t
      · exact List.cons_ne_nil s t
theorem pinv_start {ls : List S63} {P Ws : List S39} {left right : Int} {l : List S66} {bs : List Bool} (h : List.replicate (l.length + 1) false = bs) : PInv ls P Ws left right l 0 bs := by
  subst h
  refine ⟨List.length_replicate, fun j _ => ?_, .inl ⟨Nat.zero_le _, fun f hf => ?_⟩⟩
  · rw [List.getD_eq_getElem?_getD, List.getElem?_replicate]
    split <;> rfl
  · rw [List.take_zero, List.nil_append, List.drop_zero]
    exact points_fuel _ _ _ _ _ _ _ _ (by omega) (Nat.le_refl _)
theorem rd66' {L : List S66} {i : Nat} (h : i < L.length) : rd_T66 L (i : Int) = L[i] := by simp [rd_T66, List.getD_eq_getElem?_getD, List.getElem?_eq_getElem h]
theorem pinv_end {ls : List S63} {P Ws : List S39} {left right : Int} {l : List S66} {i : Nat} {bs : List Bool} (h : PInv ls P Ws left right l i bs) (hi : l.length ≤ i) : bs = pointsOf ls P Ws left right l.length l := by
  obtain ⟨hl, hf, h1 | h1⟩ := h
  · have := h1.2 l.length (by omega)
    rw [List.drop_eq_nil_of_le hi, pointsOf_end] at this
    have e : i = l.length := by omega
    subst e
    have hb : bs.drop l.length = [false] := by
      have hlen : (bs.drop l.length).length = 1 := by rw [List.length_drop]; omega
      obtain ⟨b, hb⟩ := List.length_eq_one_iff.1 hlen
      have h2 := hf l.length (Nat.le_refl _)
      rw [List.getD_eq_getElem?_getD, ← Nat.add_zero l.length, ← List.getElem?_drop, hb] at h2
      rw [hb]
      simpa using h2
    rw [← this, ← hb, List.take_append_drop]
  · exact h1.2
theorem pinv_step {ls : List S63} {P Ws : List S39} {left right : Int} {l : List S66} {i m : Nat} {bs : List Bool} {word : List Int} (h : PInv ls P Ws left right l i bs) (hi : i < l.length) (hw : word = runOf ls (l.drop i)) (hm : m = word.length) : PInv ls P Ws left right l (i + m + 1) (bs.take i ++ (pts (wordVals P Ws word) word.length left right).take word.length ++ bs.drop (i + m)) := by
  obtain ⟨hl, hf, h1⟩ := h
  obtain ⟨_, h1⟩ := h1.resolve_right (fun h => by omega)
  have hmr : m ≤ (l.drop i).length := by rw [hm, hw]; exact runOf_le ls _
  rw [List.length_drop] at hmr
  obtain ⟨Y, hY⟩ : ∃ Y, Y = (pts (wordVals P Ws word) word.length left right).take word.length := ⟨_, rfl⟩
  have hYl : Y.length = m := by rw [hY, pts_take, hm]
  have him : i + m < bs.length := by omega
  have hfm : bs.drop (i + m) = false :: bs.drop (i + m + 1) := by
    rw [List.drop_eq_getElem_cons him]
    have := hf (i + m) (by omega)
    rw [List.getD_eq_getElem?_getD, List.getElem?_eq_getElem him, Option.getD_some] at this
    rw [this]
  have htl : (bs.take i).length = i := by rw [List.length_take]; omega
  have hne : l.drop i ≠ [] := fun h => by have := congrArg List.length h; rw [List.length_drop, List.length_nil] at this; omega
  have hp : ∀ f, pointsOf ls P Ws left right (f + 1) (l.drop i) = Y ++ (if m < l.length - i then false :: pointsOf ls P Ws left right f (l.drop (i + m + 1)) else [false]) := by
    intro f
    rw [pointsOf, ← hw, ← hm, List.length_drop, List.drop_drop, hY, hm, show i + (word.length + 1) = i + word.length + 1 by omega]
    exact hne
  rw [← hY]
  refine ⟨?_, ?_, ?_⟩
  · simp only [List.length_append, htl, hYl, List.length_drop]; omega
  · intro j hj
    rw [List.getD_eq_getElem?_getD, List.getElem?_append_right (by rw [List.length_append, htl, hYl]; omega), List.getElem?_drop, List.length_append, htl, hYl, ← List.getD_eq_getElem?_getD]
    exact hf _ (by omega)
  · by_cases hc : m < l.length - i
    · left
      refine ⟨by omega, fun f hf2 => ?_⟩
      have := h1 (l.length + 1) (by omega)
      rw [hp, if_pos hc, points_fuel ls P Ws left right l.length f (l.drop (i + m + 1)) (by rw [List.length_drop]; omega) (by rw [List.length_drop]; omega)] at this
      rw [← this, hfm, List.take_append, List.length_append, htl, hYl, List.take_of_length_le (l := bs.take i ++ Y) (by rw [List.length_append, htl, hYl]; omega), show i + m + 1 - (i + m) = 1 by omega]
      simp
    · right
      have := h1 (l.length + 1) (by omega)
      rw [hp, if_neg hc] at this
      have hd : bs.drop (i + m + 1) = [] := List.drop_eq_nil_of_le (by omega)
      rw [← this, hfm, hd, List.append_assoc]
      exact ⟨by omega, rfl⟩
theorem after_word {w W0 wk : World} {go co i m : Nat} {bs bs2 : List Bool} {V : List Int} {left right : Int} {v : Value} (hr : Kd.R Kd.bool 4 wk W0.heap.size (fun _ => True) v (pts V m left right)) (hb : Below W0.heap.size W0 wk) (HO : Kd.R Kd.bool 4 W0 w.heap.size (fun _ => True) (.slice (some ⟨go, 0, none⟩) bs.length co) bs2) (HB : Below w.heap.size w W0) (hl : bs2.length = bs.length) (hi : i + m ≤ bs.length) (hge : w.heap.size ≤ go) :
    ∃ A6 c6 W', v = .slice A6 (m + 1) c6 ∧ (∀ W, (Instr.slice 58 (.slice A6 (m + 1) c6) none (some (.int .i64 (m : Int))) none).run Try.prog W = .ok (.slice A6 m c6) W) ∧ (Builtin.copy_ #[58, 58] 3 #[.slice (some ⟨go, i, none⟩) (bs.length - i) (co - i), .slice A6 m c6]).run Try.prog wk = .ok (goInt (m : Int)) W' ∧
      Kd.R Kd.bool 4 W' w.heap.size (fun _ => True) (.slice (some ⟨go, 0, none⟩) bs.length co) (bs2.take i ++ (pts V m left right).take m ++ bs2.drop (i + m)) ∧ Below w.heap.size w W' := by
  obtain ⟨A6, c6, rfl⟩ := Kd.R_slice hr
  have hpl := pts_length V m left right
  have hrd := Kd.R_reads' hr
  have hC := Kd.C_take hrd.2.2 (m := m) (by omega)
  rw [List.length_take, hpl, Nat.min_eq_left (by omega)] at hC
  have HO1 := Kd.R_below HO hb
  rw [← hl] at HO1
  obtain ⟨W', h1, h2, h3⟩ := copy_at (start := i) (c := c6) bs2 _ HO1 hC (by omega) 3
  obtain ⟨i4, h4⟩ : ∃ i4, Try.prog.info? 4 = some i4 := by
    have := info4
    cases h : Try.prog.info? 4 with
    | none => rw [h] at this; cases this
    | some x => exact ⟨x, rfl⟩
  have hcap : m + 1 ≤ c6 := by have := hrd.2.1; omega
  refine ⟨A6, c6, W', by rw [hpl], fun W => ?_, by rw [← hl]; exact h1, by rw [← hl]; exact h2, ?_⟩
  · have := cut_to (P := Try.prog) 58 4 .i64 Try.underlying58 h4 A6 (m + 1) c6 (m : Int) (by omega) (by omega) (by omega) W
    rw [Int.toNat_natCast] at this
    exact this
  · exact Below.grown (below_step HB hb) h3 (below_size (below_step HB hb)) (fun k hk => by cases hk; exact hge)
set_option maxHeartbeats 8000000 in
set_option maxRecDepth 100000 in
theorem points_calls (b : Nat) (ls : List S63) (P Ws : List S39) (left right : Int) (La : Option Addr) (Lc bt base : Nat) (Wa : Option Addr) (Wc : Nat) (A : Option Addr) (c : Nat) (l : List S66) (w : World)
    (hH : HyphAt w b ls (Tr.make (P.map Tr.pq)) Ws left right La Lc bt base Wa Wc) (hl : Kd.C k66 w A l.length l) (hlc : l.length ≤ c) (hfit : Tr.Fit P) (hok : LsOk ls)
    (hle : 1 ≤ left ∧ left ≤ 24) (hri : 1 ≤ right ∧ right ≤ 24) (hws : ∀ p ∈ Ws, p.f1.length = p.f0.length + 1) (h1000 : l.length ≤ 100000) (hrun : ∀ i, Tr.Word (runOf ls (l.drop i))) :
    Calls Try.prog 30 #[.pointer (some ⟨b, 0, none⟩), .slice A l.length c] w fun e w' => ∃ v, e = .returned v ∧ Kd.R Kd.bool 4 w' w.heap.size (fun _ => True) v (pointsOf ls P Ws left right l.length l) ∧ Below w.heap.size w w' := by
  have HH := Aside0.mk hH
  have HL := Aside0.mk hl
  have HLc := Aside0.mk hlc
  have HF := Aside0.mk hfit
  have HOK := Aside0.mk hok
  have HWS := Aside0.mk hws
  have HB := Aside0.mk (Below.refl w.heap.size w)
  have HRUN := Aside0.mk hrun
  clear hH hl hlc hfit hok hws hrun
  go_enter Try.func30, Try.ntmps30
  go_upto_region 3 with ((with_reducible refine gate_dst (N := 15) rfl ?_); refine Kd.R_make Kd.bool _ 4 rfl (N := 15) rfl 58 _ _ rfl ((l.length : Int) + 1) rfl rfl Try.underlying58 (.bool false) 1 info4 rfl (by decide) (by omega) false (ok := fun _ => True) (okp := fun _ => True) rfl (fun _ hk => hk) trivial (by omega) (by omega) HB.out (below_size HB.out) ?_; intro v12 w12 ho hb hg_ hnew_; clear hnew_ hg_; rw [show ((l.length : Int) + 1).toNat = l.length + 1 by omega] at ho; generalize hbs : List.replicate (l.length + 1) false = bs at ho; have HBS := Aside0.mk hbs; have HO := Aside0.mk ho; replace HB := Aside0.mk hb; obtain ⟨Ao, co, rfl⟩ := Kd.R_slice ho; clear ho hb hbs)
  obtain ⟨go, co', e1, hge, hlt, cells, hcells⟩ := Kd.R_form HO.out (by rw [← HBS.out, List.length_replicate]; omega)
  injection e1 with e1 _ e2
  subst e1
  subst e2
  have GE := Aside0.mk hge
  have HBL : Aside0 (bs.length = l.length + 1) := ⟨by rw [← HBS.out, List.length_replicate]⟩
  clear hge hlt hcells
  have HPI : Aside0 (PInv ls P Ws left right l 0 bs) := ⟨pinv_start HBS.out⟩
  obtain ⟨g0, hg0⟩ : ∃ g0 : Nat, g0 = l.length + 2 := ⟨_, rfl⟩
  have HG0 : Aside0 (g0 = l.length + 2) := ⟨hg0⟩
  clear hg0
  go_wp2_with fail
  go_loopg [7] g0 (fun g v7 w' => ∃ (i : Nat) (bs2 : List Bool), v7 = .int .i64 (i : Int) ∧ Aside0 (Kd.R Kd.bool 4 w' w.heap.size (fun _ => True) (.slice (some ⟨go, 0, none⟩) bs.length co) bs2) ∧ Aside0 (PInv ls P Ws left right l i bs2) ∧ Aside0 (g + i = l.length + 2) ∧ Aside0 (Below w.heap.size w w'))
  case atStart => exact ⟨0, bs, rfl, HO, HPI, ⟨by have := HG0.out; omega⟩, HB⟩
  case round =>
    obtain ⟨i, bs2, rfl, HOr, HIr, HGr, HBr⟩ := hrel
    clear HO HB HPI HBS HG0
    by_cases hc : (i : Int) < (l.length : Int)
    · have hil : i < l.length := by omega
      go_upto_block 2 with fail
      go_cut [7, 8] (fun v7 v8 wc => ∃ (j : Nat) (word : List Int) (Aw : Option Addr) (cw : Nat), v7 = .int .i64 (j : Int) ∧ v8 = .slice Aw word.length cw ∧ Aside0 (Kd.R (Kd.int .i32) 21 wc w.heap.size (fun k => k ≠ go) (.slice Aw word.length cw) word) ∧ Aside0 (Kd.R Kd.bool 4 wc w.heap.size (fun _ => True) (.slice (some ⟨go, 0, none⟩) bs.length co) bs2) ∧ Aside0 (word = runOf ls (l.drop i)) ∧ Aside0 (j = i + word.length) ∧ Aside0 (j ≤ l.length) ∧ Aside0 (Below w.heap.size w wc))
      case first =>
        obtain ⟨g1, hg1⟩ : ∃ g1 : Nat, g1 + i = l.length + 1 := ⟨l.length + 1 - i, by omega⟩
        have HG1 := Aside0.mk hg1
        clear hg1
        go_wp2_with fail
        go_loopg [7, 8] g1 (fun g v7 v8 w' => ∃ (j : Nat) (word : List Int) (Aw : Option Addr) (cw : Nat), v7 = .int .i64 (j : Int) ∧ v8 = .slice Aw word.length cw ∧ Aside0 (Kd.R (Kd.int .i32) 21 w' w.heap.size (fun k => k ≠ go) (.slice Aw word.length cw) word) ∧ Aside0 (Kd.R Kd.bool 4 w' w.heap.size (fun _ => True) (.slice (some ⟨go, 0, none⟩) bs.length co) bs2) ∧ Aside0 (word ++ runOf ls (l.drop j) = runOf ls (l.drop i)) ∧ Aside0 (j = i + word.length) ∧ Aside0 (j ≤ l.length) ∧ Aside0 (g + j = l.length + 1) ∧ Aside0 (Below w.heap.size w w'))
        case atStart => exact ⟨i, [], none, 0, rfl, rfl, ⟨Kd.R_nil _ _ _ _ _⟩, HOr, ⟨rfl⟩, ⟨rfl⟩, ⟨by omega⟩, HG1, HBr⟩
        case round =>
          obtain ⟨j, word, Aw, cw, rfl, rfl, HWr, HOj, HRr, HJr, HLr, HGj, HBj⟩ := hrel
          clear HOr HBr HG1
          rename World => wj
          by_cases hj : (j : Int) < (l.length : Int)
          · have hjl : j < l.length := by omega
            obtain ⟨s, hs⟩ : ∃ s, s = rd_T66 l (j : Int) := ⟨_, rfl⟩
            have hdr : l.drop j = s :: l.drop (j + 1) := by rw [hs, rd66' hjl]; exact List.drop_eq_getElem_cons hjl
            have HDR := Aside0.mk hdr
            obtain ⟨ad, e1, q0, q1, q2⟩ := at_T66 (Kd.C_below HL.out HBj.out) (j : Int) (by omega) (by omega)
            subst e1
            rw [← hs] at q0 q1 q2
            rw [Int.toNat_natCast] at q0
            have p0 : (0 : Int) ≤ (j : Int) := by omega
            have hwl : word.length ≤ 100000 := by have := HJr.out; omega
            clear hs hdr q1 q2
            obtain ⟨r, hr⟩ : ∃ r, r = (letOf ls s.f0).1 := ⟨_, rfl⟩
            have HR := Aside0.mk hr
            by_cases hlt : (letOf ls s.f0).2 = true
            · have HLT := Aside0.mk hlt
              clear hlt hr
              go_upto_region 11 with ((go_at_call 39; refine (letter_calls b ls _ Ws left right La Lc bt base Wa Wc s.f0 _ (HH.out.below HBj.out) HOK.out).mono ?_; rintro e wk ⟨rfl, hb⟩; rw [HLT.out, ← HR.out]; replace HWr := Aside0.mk (Kd.R_below HWr.out hb); replace HOj := Aside0.mk (Kd.R_below HOj.out hb); replace HBj := Aside0.mk (below_step HBj.out hb); clear hb))
              clear q0
              have HFR : Aside0 (∀ k, wk.heap.size ≤ k → k ≠ go) := ⟨fun k hk e => by have := Kd.R_lt HOj.out go rfl; omega⟩
              have HNW : Aside0 ((Value.slice Aw word.length cw).ownBlock ≠ (Value.slice (some ⟨go, 0, none⟩) bs.length co).ownBlock) := ⟨fun e => HWr.out.1 go e rfl⟩
              go_wp2_with ((with_reducible refine gate_builtin (b := .append) (xs := #[.tmp 43, .tmp 45]) rfl ?_); at_builtin; (refine Kd.R_append (Kd.int .i32) (w0 := w) w.heap.size rfl (.tmp 43) (.tmp 45) 23 21 (.int .i32 0) 4 rfl Try.underlying23 info21 rfl (by decide) (by omega) (.slice Aw word.length cw) word r [.int .i32 r] (fun k => k ≠ go) (fun _ => False) rfl rfl rfl (fun _ hk => hk.elim) HFR.out HWr.out HBj.out (below_size HBj.out) (by omega) ?_; intro v1 w1 ho1 hb1 hg1 hat1; clear hat1; have HOj1 := Aside0.mk (Kd.R_grown1 HOj.out rfl hg1 (HNW.out)); obtain ⟨A5, c5, hv1⟩ := Kd.R_slice ho1; rw [hv1] at ho1 ⊢; have HW1 := Aside0.mk ho1; have HB1 := Aside0.mk hb1; clear ho1 hb1 hg1 hv1))
              go_roundg (gk - 1)
              case measure => have := HGj.out; omega
              case rel => exact ⟨j + 1, word ++ [r], A5, c5, by go_num, by rw [List.length_append]; rfl, HW1, HOj1, ⟨by rw [← HRr.out, HDR.out, runOf, if_pos HLT.out, HR.out, List.append_assoc]; rfl⟩, ⟨by have := HJr.out; rw [List.length_append, List.length_singleton]; omega⟩, ⟨by omega⟩, ⟨by have := HGj.out; omega⟩, HB1⟩
            · have hlf : (letOf ls s.f0).2 = false := by simpa using hlt
              have HLT := Aside0.mk hlf
              clear hlt hlf hr
              go_upto_region 11 with ((go_at_call 39; refine (letter_calls b ls _ Ws left right La Lc bt base Wa Wc s.f0 _ (HH.out.below HBj.out) HOK.out).mono ?_; rintro e wk ⟨rfl, hb⟩; rw [HLT.out, ← HR.out]; replace HWr := Aside0.mk (Kd.R_below HWr.out hb); replace HOj := Aside0.mk (Kd.R_below HOj.out hb); replace HBj := Aside0.mk (below_step HBj.out hb); clear hb))
              clear q0
              go_wp2_with fail
              go_meet
              case rel => exact ⟨j, word, Aw, cw, rfl, rfl, HWr, HOj, ⟨by rw [← HRr.out, HDR.out, runOf, if_neg (by rw [HLT.out]; decide), List.append_nil]⟩, HJr, HLr, HBj⟩
          · go_wp2_with fail
            go_meet
            case rel => exact ⟨j, word, Aw, cw, rfl, rfl, HWr, HOj, ⟨by rw [← HRr.out, List.drop_eq_nil_of_le (by omega), runOf, List.append_nil]⟩, HJr, HLr, HBj⟩
      case rest =>
        obtain ⟨j, word, Aw, cw, rfl, rfl, HWr, HOj, HRr, HJr, HLr, HBj⟩ := hcut
        clear HOr HBr
        rename World => wj
        go_upto_region 13 with fail
        have hb2 : bs2.length = bs.length := by rw [HBL.out]; exact HIr.out.1
        have HB2 := Aside0.mk hb2
        have hcl : word.length ≤ cw := (Kd.R_reads' HWr.out).2.1
        have hco : bs.length ≤ co := (Kd.R_reads' HOj.out).2.1
        have hjl := HLr.out
        have hjw := HJr.out
        have hbl := HBL.out
        have hcut1 : ∀ W, (Instr.slice 58 (.slice (some ⟨go, 0, none⟩) bs.length co) (some (.int .i64 (i : Int))) none none).run Try.prog W = .ok (.slice (some ⟨go, i, none⟩) (bs.length - i) (co - i)) W := by
          intro W
          obtain ⟨i4, h4, h4s⟩ : ∃ i4, Try.prog.info? 4 = some i4 ∧ i4.size = 1 := by
            have := info4
            cases h : Try.prog.info? 4 with
            | none => rw [h] at this; cases this
            | some x => rw [h] at this; simp only [Option.map_some, Option.some.injEq, Prod.mk.injEq] at this; exact ⟨x, rfl, this.2.1⟩
          have := cut_from (P := Try.prog) 58 4 .i64 Try.underlying58 h4 1 h4s (some ⟨go, 0, none⟩) bs.length co (i : Int) (by omega) (by omega) W
          rw [Int.toNat_natCast, if_neg (by omega)] at this
          rw [this]
          simp [Addr.add]
          omega
        have hD := below_drew (Below.refl wj.heap.size wj)
        replace HWr := Aside0.mk (Kd.R_drew HWr.out)
        replace HOj := Aside0.mk (Kd.R_drew HOj.out)
        replace HBj := Aside0.mk (below_drew HBj.out)
        have HWL : Aside0 (word.length ≤ 1000) := ⟨by rw [HRr.out]; exact (HRUN.out i).1⟩
        have HWD : Aside0 (Tr.Word word) := ⟨by rw [HRr.out]; exact HRUN.out i⟩
        have HIL : Aside0 (i + word.length ≤ bs.length) := ⟨by omega⟩
        clear hD hb2 hjl hjw hbl hco
        go_region_with (go_at_call 33; refine Calls.mono (word_calls b ls P Ws left right La Lc bt base Wa Wc Aw cw word _ (HH.out.below HBj.out) (Kd.R_reads' HWr.out).2.2 (Kd.R_reads' HWr.out).2.1 HF.out HWD.out hle hri HWS.out) ?_; rintro e wk ⟨v, rfl, hr, hb⟩; obtain ⟨A6, c6, W', rfl, hcut2, hcp, HOc, HBc⟩ := after_word (i := i) hr hb HOj.out HBj.out HB2.out HIL.out GE.out; clear hr hb)
        all_goals go_wp2_with fail
        all_goals go_roundg (gk - (word.length + 1))
        case measure => have := HGr.out; have := HJr.out; have := HLr.out; omega
        case rel =>
          have hje := HJr.out
          have hjl2 := HLr.out
          have hw64 : wrap64 ((j : Int) + 1) = (j : Int) + 1 := by unfold wrap64; omega
          refine ⟨i + word.length + 1, _, ?_, ⟨HOc⟩, ⟨pinv_step HIr.out hil HRr.out rfl⟩, ⟨by have := HGr.out; omega⟩, ⟨HBc⟩⟩
          first | rw [hw64] | skip
          congr 1
          omega
    · go_wp2_with fail
      go_ret
      exact ⟨_, rfl, by rw [← pinv_end HIr.out (by omega)]; exact HOr.out, HBr.out⟩
end Go.Proofs.Ytoefjhdcipgacaa.Hy
end
