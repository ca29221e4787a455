/-
  Part 18 of what the law HyphChecks rests on: contracts of the functions that it calls, and plain laws of what they compute.
-/
import Derived.Deep.RegionWith
import Derived.Deep.DeepCutAuto
import Derived.Test.YtoefjhdcipgacaaHC14
import Derived.Test.YtoefjhdcipgacaaHC17
section
namespace Go.Proofs.Ytoefjhdcipgacaa.Hy
open Go.RowKit Go.Proofs.YtoefjhdcipgacaaW.PrintWords Go.Proofs.YtoefjhdcipgacaaW.PrintLast Go.Proofs.YtoefjhdcipgacaaW.PrintMore
open Go.Proofs.Ytoefjhdcipgacaa.PA
attribute [local go_sem] max2_int min2_int max_two min_two
theorem below_none {W w1 : World} (hg : W.grownBy w1 none) : Below W.heap.size W w1 := Below.grown (Below.refl _ _) hg (Nat.le_refl _) (fun k h => by cases h)
def ptAt (V : List Int) (n : Nat) (left right : Int) (j : Nat) : Bool := decide (left ≤ (j : Int)) && (decide ((j : Int) + right ≤ (n : Int)) && (Int.tmod (rd V (j : Int)) 2 == 1))
def pts (V : List Int) (n : Nat) (left right : Int) : List Bool := (List.range (n + 1)).map (ptAt V n left right)
theorem pts_length (V : List Int) (n : Nat) (left right : Int) : (pts V n left right).length = n + 1 := by simp [pts]
theorem pts_getD (V : List Int) (n : Nat) (left right : Int) (j : Nat) (h : j < n + 1) : (pts V n left right).getD j false = ptAt V n left right j := by
  simp [pts, List.getD_eq_getElem?_getD, h]
def wordVals (P W : List S39) (word : List Int) : List Int := match W.find? fun p => decide (p.f0 = word) with
  | some p => p.f1
  | none => Tr.values (Tr.make (P.map Tr.pq)) word
theorem wordVals_none {P W : List S39} {word : List Int} (h : ∀ p ∈ W, p.f0 ≠ word) : wordVals P W word = Tr.values (Tr.make (P.map Tr.pq)) word := by
  have : W.find? (fun p => decide (p.f0 = word)) = none := by
    rw [List.find?_eq_none]
    intro p hp
    simpa using h p hp
  rw [wordVals, this]
theorem find_first {W : List S39} {word : List Int} {j : Nat} (hj : j < W.length) (h1 : (rd_T39 W (j : Int)).f0 = word) (h2 : ∀ p ∈ W.take j, p.f0 ≠ word) : W.find? (fun p => decide (p.f0 = word)) = some (rd_T39 W (j : Int)) := by
  have e : W[j] = rd_T39 W (j : Int) := by simp [rd_T39, List.getD_eq_getElem?_getD, List.getElem?_eq_getElem hj]
  rw [List.find?_eq_some_iff_append]
  refine ⟨by simpa using h1, W.take j, W.drop (j + 1), ?_, fun p hp => by simpa using h2 p hp⟩
  rw [← e, List.getElem_cons_drop, List.take_append_drop]
theorem wordVals_some {P W : List S39} {word : List Int} {j : Nat} (hj : j < W.length) (h1 : (rd_T39 W (j : Int)).f0 = word) (h2 : ∀ p ∈ W.take j, p.f0 ≠ word) : wordVals P W word = (rd_T39 W (j : Int)).f1 := by
  rw [wordVals, find_first hj h1 h2]
theorem wordVals_length {P W : List S39} (word : List Int) (h : ∀ p ∈ W, p.f1.length = p.f0.length + 1) : (wordVals P W word).length = word.length + 1 := by
  unfold wordVals
  split
  · rename_i p hp
    have h1 := List.find?_some hp
    rw [h p (List.mem_of_find?_eq_some hp), of_decide_eq_true h1]
  · exact Tr.values_length _ _
def Upto (V : List Int) (n : Nat) (left right i : Int) (bs : List Bool) : Prop := bs.length = n + 1 ∧ ∀ j : Nat, j < n + 1 → bs.getD j false = (decide ((j : Int) < i) && ptAt V n left right j)
theorem upto_start (V : List Int) (n : Nat) (left right : Int) (_h : 1 ≤ left) : Upto V n left right left (List.replicate (n + 1) false) := by
  refine ⟨List.length_replicate, fun j hj => ?_⟩
  simp only [List.getD_eq_getElem?_getD, List.getElem?_replicate, hj, if_true, Option.getD_some, ptAt]
  by_cases h1 : (j : Int) < left
  · simp [show ¬ left ≤ (j : Int) by omega]
  · simp [h1]
theorem upto_step {V : List Int} {n : Nat} {left right i : Int} {bs : List Bool} (h : Upto V n left right i bs) (h0 : left ≤ i) (hl : 1 ≤ left) (hi : i + right ≤ n) : Upto V n left right (i + 1) (bs.set i.toNat (Int.tmod (rd V i) 2 == 1)) := by
  refine ⟨by rw [List.length_set]; exact h.1, fun j hj => ?_⟩
  rw [List.getD_eq_getElem?_getD, List.getElem?_set]
  by_cases e : i.toNat = j
  · have e' : (j : Int) = i := by omega
    rw [if_pos e, if_pos (by rw [e]; rw [h.1]; exact hj)]
    simp only [Option.getD_some, ptAt, e']
    simp [h0, hi, show i < i + 1 by omega]
  · rw [if_neg e, ← List.getD_eq_getElem?_getD, h.2 j hj]
    have e' : (j : Int) ≠ i := by omega
    congr 1
    exact decide_eq_decide.2 (by omega)
theorem upto_end {V : List Int} {n : Nat} {left right i : Int} {bs : List Bool} (h : Upto V n left right i bs) (hi : (n : Int) < i + right) : bs = pts V n left right := by
  apply List.ext_getElem (by rw [h.1, pts_length])
  intro j h1 h2
  have hj : j < n + 1 := by rw [h.1] at h1; exact h1
  have a := h.2 j hj
  rw [List.getD_eq_getElem?_getD, List.getElem?_eq_getElem h1, Option.getD_some] at a
  have b := pts_getD V n left right j hj
  rw [List.getD_eq_getElem?_getD, List.getElem?_eq_getElem h2, Option.getD_some] at b
  rw [a, b]
  by_cases hh : (j : Int) < i
  · simp [hh]
  · simp only [hh, decide_false, Bool.false_and, ptAt]
    have : ¬ ((j : Int) + right ≤ n) := by omega
    simp [this]
end Go.Proofs.Ytoefjhdcipgacaa.Hy
end
section
namespace Go.Proofs.Ytoefjhdcipgacaa.Hy
open Go.RowKit Go.Proofs.YtoefjhdcipgacaaW.PrintWords Go.Proofs.YtoefjhdcipgacaaW.PrintLast Go.Proofs.YtoefjhdcipgacaaW.PrintMore
open Go.Proofs.Ytoefjhdcipgacaa.PA
attribute [local go_sem] max2_int min2_int max_two min_two
set_option maxHeartbeats 8000000 in
set_option maxRecDepth 100000 in
theorem word_calls (b : Nat) (ls : List S63) (P Ws : List S39) (left right : Int) (La : Option Addr) (Lc bt base : Nat) (Wa : Option Addr) (Wc : Nat) (A : Option Addr) (c : Nat) (word : List Int) (w : World)
    (hH : HyphAt w b ls (Tr.make (P.map Tr.pq)) Ws left right La Lc bt base Wa Wc) (hw : Kd.C (Kd.int .i32) w A word.length word) (hwc : word.length ≤ c) (hfit : Tr.Fit P) (hwd : Tr.Word word)
    (hl : 1 ≤ left ∧ left ≤ 24) (hr : 1 ≤ right ∧ right ≤ 24) (hws : ∀ p ∈ Ws, p.f1.length = p.f0.length + 1) :
    Calls Try.prog 33 #[.pointer (some ⟨b, 0, none⟩), .slice A word.length c] w fun e w' => ∃ v, e = .returned v ∧ Kd.R Kd.bool 4 w' w.heap.size (fun _ => True) v (pts (wordVals P Ws word) word.length left right) ∧ Below w.heap.size w w' := by
  have hn : word.length ≤ 1000 := hwd.1
  have HH := Aside0.mk hH
  have HW := Aside0.mk hw
  have HWc := Aside0.mk hwc
  have HF := Aside0.mk hfit
  have HWD := Aside0.mk hwd
  have HWS := Aside0.mk hws
  clear hH hw hwc hfit hwd hws
  go_enter Try.func33, Try.ntmps33
  go_upto_region 4 with (first
    | ((with_reducible refine gate_dst (N := 3) rfl ?_); refine box_event ?hg (N := 3) ?hd (cs := #[.slice A word.length c]) (t := 23) ?hr ?_; (case hd => rfl); (case hg => rfl); (case hr => first | (go_simp; done) | (go_simp; rfl)); intro g3 hg w1 hbox hb; have HB := Aside0.mk hb; have BK3 := Aside0.mk hbox; have q3 : w1.cell? ⟨g3, 0, none⟩ = some (.slice A word.length c) := (blk_cell hbox 0).trans rfl; clear hb hbox hg)
    | ((with_reducible refine gate_dst (N := 12) rfl ?_); refine Kd.R_make Kd.bool _ 4 rfl (N := 12) rfl 58 _ _ rfl ((word.length : Int) + 1) rfl rfl Try.underlying58 (.bool false) 1 info4 rfl (by decide) (by omega) false (ok := fun _ => True) (okp := fun _ => True) rfl (fun _ hk => hk) trivial (by omega) (by omega) HB.out (below_size HB.out) ?_; intro v12 w12 ho hb hg_ hnew_; clear hnew_; replace BK3 := Aside0.mk (blk_grown BK3.out hg_ (by simp)); clear hg_; rw [show ((word.length : Int) + 1).toNat = word.length + 1 by omega] at ho; generalize hbs : List.replicate (word.length + 1) false = bs at ho; have HBS := Aside0.mk hbs; have HO := Aside0.mk ho; have hb1 := hb; replace HB := Aside0.mk hb; obtain ⟨Ao, co, rfl⟩ := Kd.R_slice ho; clear ho hb hbs))
  obtain ⟨go, co', e1, hge, hlt, cells, hcells⟩ := Kd.R_form HO.out (by rw [← HBS.out, List.length_replicate]; omega)
  injection e1 with e1 _ e2
  subst e1
  subst e2
  have GE := Aside0.mk hge
  have HNE := Aside0.mk (blk_ne BK3.out hcells (by decide))
  have HCE : Aside0 (∃ cells, w12.heap[go]? = some (.cells cells 4 (0, 0))) := ⟨⟨_, hcells⟩⟩
  have HBL : Aside0 (bs.length = word.length + 1) := ⟨by rw [← HBS.out, List.length_replicate]⟩
  clear hge hlt hcells
  obtain ⟨V0, hV0⟩ : ∃ V0, V0 = Tr.values (Tr.make (P.map Tr.pq)) word := ⟨_, rfl⟩
  have HV0 := Aside0.mk hV0
  clear hV0
  go_cut [6] (fun v6 wc => Aside0 (Kd.R (Kd.int .u8) 5 wc w.heap.size (fun _ => True) v6 V0) ∧ Aside0 (Kd.R Kd.bool 4 wc w.heap.size (fun _ => True) (.slice (some ⟨go, 0, none⟩) bs.length co) bs) ∧ Aside0 (wc.heap[g3]? = some (.cells #[.slice A word.length c] 23 (0, 0))) ∧ Aside0 (∃ cells, wc.heap[go]? = some (.cells cells 4 (0, 0))) ∧ Aside0 (Below w.heap.size w wc))
  case first =>
    have hBh := HH.out.below HB.out
    have q1 : w12.cell? ⟨b, 1, none⟩ = some (.pointer (some ⟨bt, 0, none⟩)) := (blk_cell hBh.blk 1).trans rfl
    have q2 : w12.cell? ⟨g3, 0, none⟩ = some (.slice A word.length c) := (blk_cell BK3.out 0).trans rfl
    have hD := below_drew (Below.refl w12.heap.size w12)
    have HT := Aside0.mk (hBh.trie.below hD)
    clear hBh
    replace HO := Aside0.mk (Kd.R_drew HO.out)
    replace BK3 := Aside0.mk (blk_below BK3.out hD)
    replace HCE := Aside0.mk (HCE.out.imp fun _ h => blk_below h hD)
    replace HB := Aside0.mk (below_drew HB.out)
    clear hD
    go_region_with (go_at_call 20; refine Calls.mono (Tr.values_fit P _ bt A c word _ HT.out (Kd.C_below HW.out HB.out) HWc.out HF.out HWD.out) ?_; rintro e wv ⟨vv, rfl, hV, hb⟩; rw [← HV0.out] at hV; have HV := Aside0.mk (Kd.R_lower hV (below_size HB.out)); replace HO := Aside0.mk (Kd.R_below HO.out hb); replace BK3 := Aside0.mk (blk_below BK3.out hb); replace HCE := Aside0.mk (HCE.out.imp fun _ h => blk_below h hb); replace HB := Aside0.mk (below_step HB.out hb); clear hb hV)
    all_goals go_wp2_with fail
    all_goals go_meet
    all_goals exact ⟨HV, HO, BK3, HCE, HB⟩
  case rest =>
    obtain ⟨HV, HO', BK3', HCE', HB'⟩ := hcut
    clear HO BK3 HCE HB
    obtain ⟨V, hV⟩ : ∃ V, V = wordVals P Ws word := ⟨_, rfl⟩
    have HVE := Aside0.mk hV
    have HVL : Aside0 (V.length = word.length + 1) := ⟨by rw [hV]; exact wordVals_length word HWS.out⟩
    clear hV
    rename_i v6
    have HWc' := Aside0.mk (HH.out.below HB'.out).words
    have q1 : wc.cell? ⟨b, 2, none⟩ = some (.slice Wa Ws.length Wc) := (blk_cell (HH.out.below HB'.out).blk 2).trans rfl
    go_upto_if 29 with (go_at_call 45; refine (indexTold_calls Ws Wa Wc g3 A c word _ HWc'.out (Kd.C_below HW.out HB'.out) BK3'.out).mono ?_; rintro e we ⟨i, rfl, hF, hb⟩; have HFi := Aside0.mk hF; replace HV := Aside0.mk (Kd.R_below HV.out hb); replace HCE' := Aside0.mk (HCE'.out.imp fun _ h => blk_below h hb); replace HO' := Aside0.mk (Kd.R_below HO'.out hb); replace BK3' := Aside0.mk (blk_below BK3'.out hb); replace HB' := Aside0.mk (below_step HB'.out hb); clear hb hF)
    go_cut [6] (fun v6 wd => wd = we ∧ ∃ AV cV, v6 = .slice AV V.length cV ∧ Aside0 (∀ w' : World, Below w.heap.size w w' → (∀ k, k ≠ go → w'.heap[k]? = we.heap[k]?) → Kd.C (Kd.int .u8) w' AV V.length V))
    case first =>
      rcases HFi.out with ⟨rfl, h⟩ | ⟨j, rfl, hj, hj1, hj2⟩
      · obtain ⟨AV, cV, rfl⟩ := Kd.R_slice HV.out
        have hve : V = V0 := by rw [HVE.out, HV0.out]; exact wordVals_none h
        have HVV := Aside0.mk hve
        clear h hve
        go_wp2_with fail
        go_meet
        case rel =>
          refine ⟨rfl, AV, cV, by rw [HVV.out], ⟨fun w' _ hk => ?_⟩⟩
          rw [HVV.out]
          obtain ⟨cs, hcs⟩ := HCE'.out
          exact (Kd.R_reads' (Kd.R_move (Kd.R_types HV.out hcs (by decide)) (fun k hk' => hk k hk'.2))).2.2
      · obtain ⟨p, hp⟩ : ∃ p, p = rd_T39 Ws (j : Int) := ⟨_, rfl⟩
        have hve : V = p.f1 := by rw [HVE.out, hp]; exact wordVals_some hj hj1 hj2
        obtain ⟨ad, A0, c0, A1, c1, e1, hx0, hx1, _, _, _, hi1⟩ := at_T39 HH.out.words (j : Int) (by omega) (by omega)
        subst e1
        rw [← hp, ← hve] at hi1 hx1
        have HI := Aside0.mk hi1
        replace hx1 := (HB'.out.cell (World.block_lt_of_cell? w _ hx1)).trans hx1
        have q5 : we.cell? ⟨b, 2, none⟩ = some (.slice (some ad) Ws.length Wc) := (blk_cell (HH.out.below HB'.out).blk 2).trans rfl
        simp only [Int.toNat_natCast] at hx1
        have p1 : (0 : Int) ≤ (j : Int) := by omega
        have p2 : (j : Int) < (Ws.length : Int) := by omega
        clear hi1 hve hj1 hj2 hx0 hp hj q1
        go_wp2_with fail
        go_meet
        case rel =>
          refine ⟨rfl, A1, c1, rfl, ⟨fun w' hb _ => Kd.C_below HI.out hb⟩⟩
    case rest =>
      obtain ⟨hwe, AV, cV, rfl, HVC⟩ := hcut
      subst hwe
      rename World => wz
      clear HV HFi HWc' q1
      have q3 : wz.cell? ⟨b, 3, none⟩ = some (.int .i64 left) := (blk_cell (HH.out.below HB'.out).blk 3).trans rfl
      obtain ⟨ad0, hAV, _⟩ := Kd.at_int (HVC.out wz HB'.out (fun _ _ => rfl)) 0 (by omega) (by have := HVL.out; omega)
      subst hAV
      have HUP : Aside0 (Upto V word.length left right left bs) := ⟨by rw [← HBS.out]; exact upto_start V word.length left right hl.1⟩
      obtain ⟨g0, hg0⟩ : ∃ g0 : Nat, (g0 : Int) + left = (word.length : Int) + 100 := ⟨((word.length : Int) + 100 - left).toNat, by omega⟩
      have HG0 := Aside0.mk hg0
      clear hg0
      go_wp2_with fail
      clear q3
      go_loopg [8] g0 (fun g v8 w' => ∃ (j : Int) (bs2 : List Bool), v8 = .int .i64 j ∧ Aside0 (Kd.R Kd.bool 4 w' w.heap.size (fun _ => True) (.slice (some ⟨go, 0, none⟩) bs.length co) bs2) ∧ Aside0 (Upto V word.length left right j bs2) ∧ Aside0 ((g : Int) + j = (word.length : Int) + 100) ∧ Aside0 (left ≤ j) ∧ Aside0 (∀ k, k ≠ go → w'.heap[k]? = wz.heap[k]?) ∧ Aside0 (Below w.heap.size w w'))
      case atStart => exact ⟨left, bs, rfl, HO', HUP, HG0, ⟨Int.le_refl _⟩, ⟨fun _ _ => rfl⟩, HB'⟩
      case round =>
        obtain ⟨j, bs2, rfl, HOr, HUr, HGr, HLr, HKr, HBr⟩ := hrel
        have b1 : 1 ≤ j := by have := HLr.out; omega
        have b2 : j ≤ (word.length : Int) + 100 := by have := HGr.out; omega
        have q4 : wr.cell? ⟨b, 4, none⟩ = some (.int .i64 right) := (blk_cell (HH.out.below HBr.out).blk 4).trans rfl
        have q5 : wr.cell? ⟨g3, 0, none⟩ = some (.slice A word.length c) := (blk_cell ((HKr.out g3 HNE.out).trans BK3'.out) 0).trans rfl
        go_upto_region 9 with fail
        go_cut [50] (fun v50 wx => v50 = .bool (decide (j ≤ (word.length : Int) - right)) ∧ Aside0 (Kd.R Kd.bool 4 wx w.heap.size (fun _ => True) (.slice (some ⟨go, 0, none⟩) bs.length co) bs2) ∧ Aside0 (∀ k, k ≠ go → wx.heap[k]? = wz.heap[k]?) ∧ Aside0 (Below w.heap.size w wx))
        case first =>
          go_region
          all_goals go_wp2_with fail
          all_goals go_meet
          all_goals exact ⟨rfl, ⟨Kd.R_drew HOr.out⟩, ⟨fun k hk => HKr.out k hk⟩, ⟨below_drew HBr.out⟩⟩
        case rest =>
          obtain ⟨hv50, HOx, HKx, HBx⟩ := hcut
          clear HOr HKr HBr q4 q5
          by_cases hc : j ≤ (word.length : Int) - right
          · rw [decide_eq_true hc] at hv50
            subst hv50
            have hlV : j < (V.length : Int) := by have := HVL.out; omega
            have hlB : j < (bs.length : Int) := by have := HBL.out; omega
            have h0j : (0 : Int) ≤ j := by omega
            obtain ⟨ad, e, hx⟩ := Kd.at_int (HVC.out wc HBx.out HKx.out) j h0j hlV
            injection e with e
            subst e
            obtain ⟨hy, hyf⟩ := Kd.R_celln false HOx.out j h0j hlB
            have HPG := Kd.R_putg HOx.out j (Int.tmod (rd V j) 2 == 1)
            have HC := Aside0.mk hc
            clear hc
            go_wp2_with ((with_reducible refine gate_store (t := 4) (p := 61) rfl ?_); refine store_event (t := 4) (p := 61) (v := ?vo) (w1 := (wc.setCell ⟨go, j.toNat, none⟩ (.bool (Int.tmod (rd V j) 2 == 1)))) ?hg ?ho ?hn ?hr ?_; (case ho => rfl); (case hg => rfl); (case hn => rfl); (case hr => first | (go_simp; done) | (go_simp; rfl)); intro w29 hw; have HO2 := Aside0.mk (show Kd.R Kd.bool 4 w29 w.heap.size (fun _ => True) (.slice (some ⟨go, 0, none⟩) bs.length co) (bs2.set j.toNat (Int.tmod (rd V j) 2 == 1)) by rw [hw]; exact HPG.1); have HK2 : Aside0 (∀ k, k ≠ go → w29.heap[k]? = wz.heap[k]?) := ⟨fun k hk => by rw [hw]; exact (Below.heap_setCell wc _ _ k hk).trans (HKx.out k hk)⟩; have HB2 : Aside0 (Below w.heap.size w w29) := ⟨by rw [hw]; exact below_set HBx.out GE.out⟩; clear hw HPG hy hyf)
            go_roundg (gk - 1)
            case measure => have := HGr.out; have := HC.out; omega
            case rel => exact ⟨j + 1, _, by go_num, HO2, ⟨upto_step HUr.out HLr.out hl.1 (by have := HC.out; omega)⟩, ⟨by have := HGr.out; have := HC.out; omega⟩, ⟨by have := HLr.out; omega⟩, HK2, HB2⟩
          · rw [decide_eq_false hc] at hv50
            subst hv50
            have hE : bs2 = pts V word.length left right := upto_end HUr.out (by omega)
            have HE := Aside0.mk hE
            clear hE hc
            go_wp2_with fail
            go_ret
            exact ⟨_, rfl, by rw [← HVE.out, ← HE.out]; exact HOx.out, HBx.out⟩
end Go.Proofs.Ytoefjhdcipgacaa.Hy
end
