/-
  Part 21 of what the law HyphTold rests on: contracts of the functions that it calls, and plain laws of what they compute.
-/
import Derived.Deep.RegionWith
import Derived.Test.YtoefjhdcipgacaaHT6
import Derived.Test.YtoefjhdcipgacaaHT7
import Derived.Test.YtoefjhdcipgacaaHT16
import Derived.Test.YtoefjhdcipgacaaHT17
import Derived.Test.YtoefjhdcipgacaaHT18
import Derived.Test.YtoefjhdcipgacaaHT19
import Derived.Test.YtoefjhdcipgacaaHT20
section
namespace Go.Proofs.Ytoefjhdcipgacaa.Hy
open Go.RowKit Go.Proofs.YtoefjhdcipgacaaW.PrintWords Go.Proofs.YtoefjhdcipgacaaW.PrintLast Go.Proofs.YtoefjhdcipgacaaW.PrintMore
open Go.Proofs.Ytoefjhdcipgacaa.PA
attribute [local go_sem] max2_int min2_int max_two min_two
set_option maxHeartbeats 8000000 in
set_option maxRecDepth 100000 in
theorem new_bad3 (k : Nat) (s : ByteArray) (A : Option Addr) (c : Nat) (ls : List S63) (left right : Int) (P W : List S39) (code at_ : Int) (w : World) (hl : Kd.C k63 w A ls.length ls) (hlc : ls.length ≤ c) (hck : hyph_Check.f k ls = some true)
    (h1 : 1 ≤ left) (h2 : 1 ≤ right) (h3 : left ≤ 24) (h4 : right ≤ 24) (hpar : pats_Parse.f k s = some (P, W, code, at_)) (hne : code ≠ 0) :
    Calls Try.prog 26 #[.string s, .slice A ls.length c, .int .i64 left, .int .i64 right] w fun e w' => e = .returned (.tuple #[.pointer none, .agg #[.int .i64 code, .int .i64 at_]]) ∧ Below w.heap.size w w' := by
  have HL := Aside0.mk hl
  have HLc := Aside0.mk hlc
  have HK := Aside0.mk hck
  have HP := Aside0.mk hpar
  clear hl hlc hck hpar
  go_enter Try.func26, Try.ntmps26
  go_upto_region 5 with (first
    | ((with_reducible refine gate_dst (N := 9) rfl ?_); refine box_event ?hg (N := 9) ?hd (cs := #[.int .i64 0, .int .i64 0]) (t := 46) ?hr ?_; (case hd => rfl); (case hg => rfl); (case hr => first | (go_simp; done) | (go_simp; rfl)); intro g9 hg w1 hbox hb; have HB := Aside0.mk hb; have BK9 := Aside0.mk hbox; have GE9 := Aside0.mk (Nat.le_of_eq hg.symm : w.heap.size ≤ g9); clear hb hbox hg)
    | (go_at_call 34; refine (hyph_Check.calls k A c ls true _ (Kd.C_below HL.out HB.out) HLc.out HK.out).mono ?_; rintro e w2 ⟨rfl, hb⟩; replace BK9 := Aside0.mk (blk_below BK9.out hb); replace HB := Aside0.mk (below_step HB.out hb); clear hb))
  go_cut [10, 11] (fun v10 v11 wc => ∃ g11, v11 = .pointer (some ⟨g11, 0, none⟩) ∧ Aside0 (wc.heap[g11]? = some (.cells #[.int .i64 code, .int .i64 at_] 46 (0, 0))) ∧ Aside0 (wc.heap[g9]? = some (.cells #[.int .i64 0, .int .i64 0] 46 (0, 0))) ∧ Aside0 (Below w.heap.size w wc))
  case first =>
    go_wp2_with (first
    | (go_at_call 41; refine (pats_Parse.calls k s P W code at_ _ HP.out).mono ?_; rintro e w3 ⟨v0, v1, rfl, hs0, hs1, hb⟩; obtain ⟨Ap, cp, rfl⟩ := Kd.S_slice hs0; obtain ⟨Aw, cw, rfl⟩ := Kd.S_slice hs1; have HS0 := Aside0.mk (Kd.S_lower (Kd.S_mono (ok' := fun _ => True) hs0 (fun _ _ => trivial)) (below_size HB.out)); have HS1 := Aside0.mk (Kd.S_lower (Kd.S_mono (ok' := fun _ => True) hs1 (fun _ _ => trivial)) (below_size HB.out)); replace BK9 := Aside0.mk (blk_below BK9.out hb); replace HB := Aside0.mk (below_step HB.out hb); clear hb hs0 hs1)
    | ((with_reducible refine gate_dst (N := 10) rfl ?_); refine box_event ?hg (N := 10) ?hd (cs := #[.slice none 0 0, .slice none 0 0]) (t := 50) ?hr ?_; (case hd => rfl); (case hg => rfl); (case hr => first | (go_simp; done) | (go_simp; rfl)); intro g10 hg w4 hbox hb; replace HS0 := Aside0.mk (Kd.S_below HS0.out hb); replace HS1 := Aside0.mk (Kd.S_below HS1.out hb); replace BK9 := Aside0.mk (blk_below BK9.out hb); have BK10 := Aside0.mk hbox; have GE10 := Aside0.mk (by rw [hg]; exact below_size HB.out : w.heap.size ≤ g10); replace HB := Aside0.mk (below_step HB.out hb); clear hb hbox hg)
    | ((with_reducible refine gate_dst (N := 11) rfl ?_); refine box_event ?hg (N := 11) ?hd (cs := #[.int .i64 0, .int .i64 0]) (t := 46) ?hr ?_; (case hd => rfl); (case hg => rfl); (case hr => first | (go_simp; done) | (go_simp; rfl)); intro g11 hg w5 hbox hb; have NB := Aside0.mk (by rw [hg]; exact Nat.ne_of_lt (blk_lt BK9.out) : g9 ≠ g11); replace HS0 := Aside0.mk (Kd.S_below HS0.out hb); replace HS1 := Aside0.mk (Kd.S_below HS1.out hb); replace BK9 := Aside0.mk (blk_below BK9.out hb); replace BK10 := Aside0.mk (blk_below BK10.out hb); have BK11 := Aside0.mk hbox; have GE11 := Aside0.mk (by rw [hg]; exact below_size HB.out : w.heap.size ≤ g11); replace HB := Aside0.mk (below_step HB.out hb); have hcz0 : w5.cell? ⟨g10, 0, none⟩ = some (.slice none 0 0) := (blk_cell BK10.out 0).trans rfl; have hcz1 : w5.cell? ⟨g10, 1, none⟩ = some (.slice none 0 0) := (blk_cell BK10.out 1).trans rfl; have hfz0 := blk_frozen BK10.out 0; have hfz1 := blk_frozen BK10.out 1; have hdz0 : w5.cell? ⟨g11, 0, none⟩ = some (.int .i64 0) := (blk_cell BK11.out 0).trans rfl; have hdz1 : w5.cell? ⟨g11, 1, none⟩ = some (.int .i64 0) := (blk_cell BK11.out 1).trans rfl; have hez0 := blk_frozen BK11.out 0; have hez1 := blk_frozen BK11.out 1; have hnb := blk_ne BK10.out BK11.out (by decide); have hnc := Ne.symm hnb; clear hb hbox hg))
    go_meet
    case rel =>
      refine ⟨g11, rfl, ⟨?_⟩, ⟨?_⟩, ⟨?_⟩⟩
      · refine blk_put (cs := #[.int .i64 code, .int .i64 0]) (blk_put (cs := #[.int .i64 0, .int .i64 0]) (blk_far (blk_far BK11.out hnc _) hnc _) 0 _ rfl) 1 _ rfl
      · refine blk_far (blk_far (blk_far (blk_far BK9.out ?_ _) ?_ _) NB.out _) NB.out _ <;> exact Ne.symm (blk_ne BK10.out BK9.out (by decide))
      · exact below_set (below_set (below_set (below_set HB.out GE10.out) GE10.out) GE11.out) GE11.out
  case rest =>
    obtain ⟨g11, rfl, BK11, BK9', HB'⟩ := hcut
    clear HB BK9
    have HB := HB'
    have BK9 := BK9'
    clear HB' BK9'
    have hdz0 : wc.cell? ⟨g11, 0, none⟩ = some (.int .i64 code) := (blk_cell BK11.out 0).trans rfl
    have hdz1 : wc.cell? ⟨g11, 1, none⟩ = some (.int .i64 at_) := (blk_cell BK11.out 1).trans rfl
    have hcz0 : wc.cell? ⟨g9, 0, none⟩ = some (.int .i64 0) := (blk_cell BK9.out 0).trans rfl
    have hcz1 : wc.cell? ⟨g9, 1, none⟩ = some (.int .i64 0) := (blk_cell BK9.out 1).trans rfl
    have hfz0 := blk_frozen BK9.out 0
    have hfz1 := blk_frozen BK9.out 1
    go_upto_region 7 with fail
    go_region
    all_goals go_wp2_with fail
    refine bodyPost_ret (results_tc rfl _ _ g9 46 #[.int .i64 code, .int .i64 at_] (0, 0) _ rfl (blk_drew (blk_put (cs := #[.int .i64 code, .int .i64 0]) (blk_put (cs := #[.int .i64 0, .int .i64 0]) BK9.out 0 _ rfl) 1 _ rfl)) Try.underlying46 rfl (by kernel_rfl)) rfl ?_
    exact ⟨rfl, below_drew (below_set (below_set HB.out GE9.out) GE9.out)⟩
end Go.Proofs.Ytoefjhdcipgacaa.Hy
end
section
namespace Go.Proofs.Ytoefjhdcipgacaa.Hy
open Go.RowKit Go.Proofs.YtoefjhdcipgacaaW.PrintWords Go.Proofs.YtoefjhdcipgacaaW.PrintLast Go.Proofs.YtoefjhdcipgacaaW.PrintMore
open Go.Proofs.Ytoefjhdcipgacaa.PA
attribute [local go_sem] max2_int min2_int max_two min_two
theorem _root_.Go.Proofs.Ytoefjhdcipgacaa.Tr.TrieAt.set {w : World} {base bt g : Nat} {T : Tr.TM} (h : Tr.TrieAt w base bt T) (hg : g < base) (j : Nat) (u : Value) : Tr.TrieAt (w.setCell ⟨g, j, none⟩ u) base bt T := by
  obtain ⟨bn, cap, K, xs, ms, vs, hK, h⟩ := h
  exact ⟨bn, cap, K, xs, ms, vs, hK, h.move (fun k hk _ => Below.heap_setCell w ⟨g, j, none⟩ u k (by show k ≠ g; omega))⟩
set_option maxHeartbeats 8000000 in
set_option maxRecDepth 100000 in
theorem new_ok (k : Nat) (s : ByteArray) (A : Option Addr) (c : Nat) (ls : List S63) (left right : Int) (P W : List S39) (w : World) (hl : Kd.C k63 w A ls.length ls) (hlc : ls.length ≤ c) (h8 : ls.length ≤ 1000000) (hck : hyph_Check.f k ls = some true)
    (h1 : 1 ≤ left) (h2 : 1 ≤ right) (h3 : left ≤ 24) (h4 : right ≤ 24) (hpar : pats_Parse.f k s = some (P, W, 0, 0)) (hfit : Tr.Fit P) :
    Calls Try.prog 26 #[.string s, .slice A ls.length c, .int .i64 left, .int .i64 right] w fun e w' => ∃ b La Lc bt base Wa Wc, e = .returned (.tuple #[.pointer (some ⟨b, 0, none⟩), .agg #[.int .i64 0, .int .i64 0]]) ∧ HyphAt w' b ls (Tr.make (P.map Tr.pq)) W left right La Lc bt base Wa Wc ∧ Below w.heap.size w w' := by
  have HL := Aside0.mk hl
  have HLc := Aside0.mk hlc
  have HL8 := Aside0.mk h8
  have HK := Aside0.mk hck
  have HP := Aside0.mk hpar
  have HF := Aside0.mk hfit
  clear hl hlc h8 hck hpar hfit
  go_enter Try.func26, Try.ntmps26
  go_upto_region 5 with (first
    | ((with_reducible refine gate_dst (N := 9) rfl ?_); refine box_event ?hg (N := 9) ?hd (cs := #[.int .i64 0, .int .i64 0]) (t := 46) ?hr ?_; (case hd => rfl); (case hg => rfl); (case hr => first | (go_simp; done) | (go_simp; rfl)); intro g9 hg w1 hbox hb; have HB := Aside0.mk hb; have BK9 := Aside0.mk hbox; have GE9 := Aside0.mk (Nat.le_of_eq hg.symm : w.heap.size ≤ g9); clear hb hbox hg)
    | (go_at_call 34; refine (hyph_Check.calls k A c ls true _ (Kd.C_below HL.out HB.out) HLc.out HK.out).mono ?_; rintro e w2 ⟨rfl, hb⟩; replace BK9 := Aside0.mk (blk_below BK9.out hb); replace HB := Aside0.mk (below_step HB.out hb); clear hb))
  go_cut [10, 11] (fun v10 v11 wc => ∃ g10 g11 Ap cp Aw cw, v10 = .pointer (some ⟨g10, 0, none⟩) ∧ v11 = .pointer (some ⟨g11, 0, none⟩) ∧ Aside0 (wc.heap[g10]? = some (.cells #[.slice Ap P.length cp, .slice Aw W.length cw] 50 (0, 0))) ∧ Aside0 (wc.heap[g11]? = some (.cells #[.int .i64 0, .int .i64 0] 46 (0, 0))) ∧ Aside0 (wc.heap[g9]? = some (.cells #[.int .i64 0, .int .i64 0] 46 (0, 0))) ∧ Aside0 (Kd.S k39 39 wc w.heap.size (fun _ => True) (.slice Ap P.length cp) P) ∧ Aside0 (Kd.S k39 39 wc w.heap.size (fun _ => True) (.slice Aw W.length cw) W) ∧ Aside0 (Below w.heap.size w wc))
  case first =>
    go_wp2_with (first
    | (go_at_call 41; refine (pats_Parse.calls k s P W 0 0 _ HP.out).mono ?_; rintro e w3 ⟨v0, v1, rfl, hs0, hs1, hb⟩; obtain ⟨Ap, cp, rfl⟩ := Kd.S_slice hs0; obtain ⟨Aw, cw, rfl⟩ := Kd.S_slice hs1; have HS0 := Aside0.mk (Kd.S_lower (Kd.S_mono (ok' := fun _ => True) hs0 (fun _ _ => trivial)) (below_size HB.out)); have HS1 := Aside0.mk (Kd.S_lower (Kd.S_mono (ok' := fun _ => True) hs1 (fun _ _ => trivial)) (below_size HB.out)); replace BK9 := Aside0.mk (blk_below BK9.out hb); replace HB := Aside0.mk (below_step HB.out hb); clear hb hs0 hs1)
    | ((with_reducible refine gate_dst (N := 10) rfl ?_); refine box_event ?hg (N := 10) ?hd (cs := #[.slice none 0 0, .slice none 0 0]) (t := 50) ?hr ?_; (case hd => rfl); (case hg => rfl); (case hr => first | (go_simp; done) | (go_simp; rfl)); intro g10 hg w4 hbox hb; replace HS0 := Aside0.mk (Kd.S_below HS0.out hb); replace HS1 := Aside0.mk (Kd.S_below HS1.out hb); replace BK9 := Aside0.mk (blk_below BK9.out hb); have BK10 := Aside0.mk hbox; have GE10 := Aside0.mk (by rw [hg]; exact below_size HB.out : w.heap.size ≤ g10); replace HB := Aside0.mk (below_step HB.out hb); clear hb hbox hg)
    | ((with_reducible refine gate_dst (N := 11) rfl ?_); refine box_event ?hg (N := 11) ?hd (cs := #[.int .i64 0, .int .i64 0]) (t := 46) ?hr ?_; (case hd => rfl); (case hg => rfl); (case hr => first | (go_simp; done) | (go_simp; rfl)); intro g11 hg w5 hbox hb; have NB := Aside0.mk (by rw [hg]; exact Nat.ne_of_lt (blk_lt BK9.out) : g9 ≠ g11); replace HS0 := Aside0.mk (Kd.S_below HS0.out hb); replace HS1 := Aside0.mk (Kd.S_below HS1.out hb); replace BK9 := Aside0.mk (blk_below BK9.out hb); replace BK10 := Aside0.mk (blk_below BK10.out hb); have BK11 := Aside0.mk hbox; have GE11 := Aside0.mk (by rw [hg]; exact below_size HB.out : w.heap.size ≤ g11); replace HB := Aside0.mk (below_step HB.out hb); have hcz0 : w5.cell? ⟨g10, 0, none⟩ = some (.slice none 0 0) := (blk_cell BK10.out 0).trans rfl; have hcz1 : w5.cell? ⟨g10, 1, none⟩ = some (.slice none 0 0) := (blk_cell BK10.out 1).trans rfl; have hfz0 := blk_frozen BK10.out 0; have hfz1 := blk_frozen BK10.out 1; have hdz0 : w5.cell? ⟨g11, 0, none⟩ = some (.int .i64 0) := (blk_cell BK11.out 0).trans rfl; have hdz1 : w5.cell? ⟨g11, 1, none⟩ = some (.int .i64 0) := (blk_cell BK11.out 1).trans rfl; have hez0 := blk_frozen BK11.out 0; have hez1 := blk_frozen BK11.out 1; have hnb := blk_ne BK10.out BK11.out (by decide); have hnc := Ne.symm hnb; clear hb hbox hg))
    go_meet
    case rel =>
      refine ⟨g10, g11, Ap, cp, Aw, cw, rfl, rfl, ⟨?_⟩, ⟨?_⟩, ⟨?_⟩, ⟨?_⟩, ⟨?_⟩, ⟨?_⟩⟩
      · refine blk_far (blk_far (blk_put (cs := #[.slice Ap P.length cp, .slice none 0 0]) (blk_put (cs := #[.slice none 0 0, .slice none 0 0]) BK10.out 0 _ rfl) 1 _ rfl) hnb _) hnb _
      · refine blk_put (cs := #[.int .i64 0, .int .i64 0]) (blk_put (cs := #[.int .i64 0, .int .i64 0]) (blk_far (blk_far BK11.out hnc _) hnc _) 0 _ rfl) 1 _ rfl
      · refine blk_far (blk_far (blk_far (blk_far BK9.out ?_ _) ?_ _) NB.out _) NB.out _ <;> exact Ne.symm (blk_ne BK10.out BK9.out (by decide))
      · exact Kd.S_far (p := ⟨g11, 1, none⟩) (Kd.S_far (p := ⟨g11, 0, none⟩) (Kd.S_far (p := ⟨g10, 1, none⟩) (Kd.S_far (p := ⟨g10, 0, none⟩) (Kd.S_types (Kd.S_types HS0.out BK10.out (by decide)) BK11.out (by decide)) (fun _ hk => hk.1.2) _) (fun _ hk => hk.1.2) _) (fun _ hk => hk.2) _) (fun _ hk => hk.2) _ |> fun h => Kd.S_mono h (fun _ _ => trivial)
      · exact Kd.S_far (p := ⟨g11, 1, none⟩) (Kd.S_far (p := ⟨g11, 0, none⟩) (Kd.S_far (p := ⟨g10, 1, none⟩) (Kd.S_far (p := ⟨g10, 0, none⟩) (Kd.S_types (Kd.S_types HS1.out BK10.out (by decide)) BK11.out (by decide)) (fun _ hk => hk.1.2) _) (fun _ hk => hk.1.2) _) (fun _ hk => hk.2) _) (fun _ hk => hk.2) _ |> fun h => Kd.S_mono h (fun _ _ => trivial)
      · exact below_set (below_set (below_set (below_set HB.out GE10.out) GE10.out) GE11.out) GE11.out
  case rest =>
    obtain ⟨g10, g11, Ap, cp, Aw, cw, rfl, rfl, BK10, BK11, BK9', HS0, HS1, HB'⟩ := hcut
    clear HB BK9
    have HB := HB'
    have BK9 := BK9'
    clear HB' BK9'
    have hdz0 : wc.cell? ⟨g11, 0, none⟩ = some (.int .i64 0) := (blk_cell BK11.out 0).trans rfl
    have hdz1 : wc.cell? ⟨g11, 1, none⟩ = some (.int .i64 0) := (blk_cell BK11.out 1).trans rfl
    go_upto_region 8 with fail
    clear hdz0 hdz1
    have hD := below_drew (Below.refl wc.heap.size wc)
    have q0 : wc.cell? ⟨g10, 0, none⟩ = some (.slice Ap P.length cp) := (blk_cell BK10.out 0).trans rfl
    have q1 : wc.cell? ⟨g10, 1, none⟩ = some (.slice Aw W.length cw) := (blk_cell BK10.out 1).trans rfl
    replace BK9 := Aside0.mk (blk_below BK9.out hD)
    replace BK10 := Aside0.mk (blk_below BK10.out hD)
    replace HS0 := Aside0.mk (Kd.S_drew HS0.out)
    replace HS1 := Aside0.mk (Kd.S_drew HS1.out)
    replace HB := Aside0.mk (below_drew HB.out)
    clear hD BK11
    go_region_with (first
      | (go_at_call 42; refine Calls.mono (clone_calls ls A c _ (Kd.C_below HL.out HB.out) HL8.out) ?_; rintro e w6 ⟨v6, rfl, hr, hb⟩; obtain ⟨La, Lc, rfl⟩ := Kd.R_slice hr; have HR := Aside0.mk (Kd.R_lower hr (below_size HB.out)); replace BK9 := Aside0.mk (blk_below BK9.out hb); replace BK10 := Aside0.mk (blk_below BK10.out hb); replace HS0 := Aside0.mk (Kd.S_below HS0.out hb); replace HS1 := Aside0.mk (Kd.S_below HS1.out hb); replace HB := Aside0.mk (below_step HB.out hb); have q2 : w6.cell? ⟨g10, 0, none⟩ = some (.slice Ap P.length cp) := (blk_cell BK10.out 0).trans rfl; have q3 : w6.cell? ⟨g10, 1, none⟩ = some (.slice Aw W.length cw) := (blk_cell BK10.out 1).trans rfl; clear hb hr)
      | (go_at_call 19; refine Calls.mono (Tr.make_fit P Ap cp _ (Kd.S_reads' HS0.out).2.2 (Kd.S_reads' HS0.out).2.1 HF.out) ?_; rintro e w7 ⟨bt, rfl, hT, hb⟩; have HT := Aside0.mk hT; have NB9 := Aside0.mk (blk_lt BK9.out); replace BK9 := Aside0.mk (blk_below BK9.out hb); replace BK10 := Aside0.mk (blk_below BK10.out hb); replace HS0 := Aside0.mk (Kd.S_below HS0.out hb); replace HS1 := Aside0.mk (Kd.S_below HS1.out hb); replace HR := Aside0.mk (Kd.R_below HR.out hb); replace HB := Aside0.mk (below_step HB.out hb); have q4 : w7.cell? ⟨g10, 0, none⟩ = some (.slice Ap P.length cp) := (blk_cell BK10.out 0).trans rfl; have q5 : w7.cell? ⟨g10, 1, none⟩ = some (.slice Aw W.length cw) := (blk_cell BK10.out 1).trans rfl; have ha := blk_alloc BK9.out (.cells #[.slice La ls.length Lc, .pointer (some ⟨bt, 0, none⟩), .slice Aw W.length cw, .int .i64 left, .int .i64 right] 95); have hcz0 : (w7.alloc (.cells #[.slice La ls.length Lc, .pointer (some ⟨bt, 0, none⟩), .slice Aw W.length cw, .int .i64 left, .int .i64 right] 95)).cell? ⟨g9, 0, none⟩ = some (.int .i64 0) := (blk_cell ha 0).trans rfl; have hcz1 : (w7.alloc (.cells #[.slice La ls.length Lc, .pointer (some ⟨bt, 0, none⟩), .slice Aw W.length cw, .int .i64 left, .int .i64 right] 95)).cell? ⟨g9, 1, none⟩ = some (.int .i64 0) := (blk_cell ha 1).trans rfl; have hfz0 := blk_frozen ha 0; have hfz1 := blk_frozen ha 1; clear ha; clear hb hT))
    all_goals go_wp2_with fail
    all_goals
      have ha := blk_alloc BK9.out (.cells #[.slice La ls.length Lc, .pointer (some ⟨bt, 0, none⟩), .slice Aw W.length cw, .int .i64 left, .int .i64 right] 95)
      have ne : w7.heap.size ≠ g9 := Nat.ne_of_gt (blk_lt BK9.out)
      refine bodyPost_ret (results_tc rfl _ _ g9 46 #[.int .i64 0, .int .i64 0] (0, 0) _ rfl (blk_put (cs := #[.int .i64 0, .int .i64 0]) (blk_put (cs := #[.int .i64 0, .int .i64 0]) ha 0 _ rfl) 1 _ rfl) Try.underlying46 rfl (by kernel_rfl)) rfl ?_
      have x1 := blk_far (blk_far (blk_new w7 (.cells #[.slice La ls.length Lc, .pointer (some ⟨bt, 0, none⟩), .slice Aw W.length cw, .int .i64 left, .int .i64 right] 95)) ne (p := ⟨g9, 0, none⟩) (.int .i64 0)) ne (p := ⟨g9, 1, none⟩) (.int .i64 0)
      have x2 := (Kd.R_reads' (Kd.R_far (p := ⟨g9, 1, none⟩) (Kd.R_far (p := ⟨g9, 0, none⟩) (Kd.R_types (Kd.R_alloc HR.out _) ha (by decide)) (fun _ hk => hk.2) (.int .i64 0)) (fun _ hk => hk.2) (.int .i64 0))).2.2
      have x3 := ((HT.out.below (below_alloc (Below.refl _ _) (.cells #[.slice La ls.length Lc, .pointer (some ⟨bt, 0, none⟩), .slice Aw W.length cw, .int .i64 left, .int .i64 right] 95))).set NB9.out 0 (.int .i64 0)).set NB9.out 1 (.int .i64 0)
      have x4 := (Kd.S_reads' (Kd.S_far (p := ⟨g9, 1, none⟩) (Kd.S_far (p := ⟨g9, 0, none⟩) (Kd.S_types (Kd.S_alloc HS1.out _) ha (by decide)) (fun _ hk => hk.2) (.int .i64 0)) (fun _ hk => hk.2) (.int .i64 0))).2.2
      exact ⟨w7.heap.size, La, Lc, bt, _, Aw, cw, rfl, ⟨x1, x2, x3, x4, (Kd.S_reads' HS1.out).2.1⟩, below_set (below_set (below_alloc HB.out _) GE9.out) GE9.out⟩
end Go.Proofs.Ytoefjhdcipgacaa.Hy
end
section
namespace Go.Proofs.Ytoefjhdcipgacaa.Hy
open Go.RowKit Go.Proofs.YtoefjhdcipgacaaW.PrintWords Go.Proofs.YtoefjhdcipgacaaW.PrintLast Go.Proofs.YtoefjhdcipgacaaW.PrintMore
open Go.Proofs.Ytoefjhdcipgacaa.PA
attribute [local go_sem] max2_int min2_int max_two min_two
set_option linter.unusedSimpArgs false
set_option linter.unusedVariables false
def awP : List S39 := [⟨[104, 121, 112], [0, 0, 1, 0]⟩]
def awW : List S39 := [⟨[116, 97, 98, 108, 101], [0, 0, 1, 0, 0, 0]⟩]
def lowL : List S63 := [⟨97, 122, 97⟩]
set_option maxRecDepth 100000 in
theorem aw_parse : pats_Parse.f 40 { data := #[104, 121, 49, 112, 32, 116, 97, 45, 98, 108, 101] } = some (awP, awW, 0, 0) := by kernel_rfl
theorem low_check : hyph_Check.f 40 lowL = some true := by kernel_rfl
theorem aw_fit : Tr.Fit awP := by
  refine ⟨by decide, fun p hp => ?_⟩
  simp only [awP, List.mem_cons, List.not_mem_nil, or_false] at hp
  subst hp
  refine ⟨by decide, by decide, fun r hr => ?_, by decide⟩
  simp only [List.mem_cons, List.not_mem_nil, or_false] at hr
  rcases hr with rfl | rfl | rfl <;> exact ⟨by decide, by decide⟩
theorem aw_told : ∀ p ∈ awW, p.f1.length = p.f0.length + 1 := by decide
def hyphen : List Int := [104, 121, 112, 104, 101, 110]
def table : List Int := [116, 97, 98, 108, 101]
theorem word_of {l : List Int} (h : l.length ≤ 1000) (h2 : ∀ r ∈ l, -2147483648 ≤ r ∧ r ≤ 2147483647) : Tr.Word l := ⟨h, h2⟩
theorem hyphen_word : Tr.Word hyphen := word_of (by decide) (by decide)
theorem table_word : Tr.Word table := word_of (by decide) (by decide)
theorem aw_1 : pts (wordVals awP awW hyphen) 6 2 2 = [false, false, true, false, false, false, false] := by decide +kernel
theorem aw_2 : pts (wordVals awP awW table) 5 2 2 = [false, false, true, false, false, false] := by decide +kernel
theorem aw_3 : pts (wordVals awP awW table) 5 2 4 = [false, false, false, false, false, false] := by decide +kernel
set_option maxHeartbeats 8000000 in
set_option maxRecDepth 100000 in
theorem awake09_calls (w : World) : Calls Try.prog 24 #[] w fun e w' => e = .returned (.bool true) ∧ Below w.heap.size w w' := by
  have HB := Aside0.mk (Below.refl w.heap.size w)
  go_enter Try.func24, Try.ntmps24
  go_upto_region 1 with fail
  go_cut [1, 2] (fun v1 v2 wc => ∃ b La Lc bt base Wa Wc g2, v1 = .pointer (some ⟨b, 0, none⟩) ∧ v2 = .pointer (some ⟨g2, 0, none⟩) ∧ Aside0 (HyphAt wc b lowL (Tr.make (awP.map Tr.pq)) awW 2 2 La Lc bt base Wa Wc) ∧ Aside0 (wc.heap[g2]? = some (.cells #[.int .i64 0, .int .i64 0] 46 (0, 0))) ∧ Aside0 (Below w.heap.size w wc))
  case first =>
    go_wp2_with (first
      | ((with_reducible refine gate_callee (f := 36) rfl ?_); (refine goesL_ (some 9) rfl rfl Try.func36 (by kernel_rfl) rfl #[] rfl (by (try simp only [List.map_toArray, List.map_cons, List.map_nil]); first | done | rfl) ?_; refine (stanzalaw09_low.calls lowL _ rfl).mono ?_; rintro e wa ⟨v, rfl, hr, hb⟩; refine ⟨_, rfl, ?_⟩; obtain ⟨Al, cl, hv_, hl_, hc_⟩ := Kd.R_reads hr; subst hv_; have HLl := Aside0.mk hl_; have HLc := Aside0.mk hc_; replace HB := Aside0.mk (below_step HB.out hb); clear hb hr hl_ hc_))
      | ((with_reducible refine gate_callee (f := 26) rfl ?_); (refine goesL_ (some 10) rfl rfl Try.func26 (by kernel_rfl) rfl #[.string { data := #[104, 121, 49, 112, 32, 116, 97, 45, 98, 108, 101] }, .slice Al lowL.length cl, .int .i64 2, .int .i64 2] rfl (by (try simp only [List.map_toArray, List.map_cons, List.map_nil]); first | done | rfl) ?_; refine (new_ok 40 _ Al cl lowL 2 2 awP awW _ HLc.out HLl.out (by decide) low_check (by decide) (by decide) (by decide) (by decide) aw_parse aw_fit).mono ?_; rintro e wb ⟨b, La, Lc, bt, base, Wa, Wc, rfl, hH, hb⟩; refine ⟨_, rfl, ?_⟩; have HH := Aside0.mk hH; replace HB := Aside0.mk (below_step HB.out hb); clear hb hH HLl HLc))
      | ((with_reducible refine gate_dst (N := 2) rfl ?_); refine box_event ?hg (N := 2) ?hd (cs := #[.int .i64 0, .int .i64 0]) (t := 46) ?hr ?_; (case hd => rfl); (case hg => rfl); (case hr => first | (go_simp; done) | (go_simp; rfl)); intro gx hg wc1 hbox hb; have GE := Aside0.mk (by rw [hg]; exact below_size HB.out : w.heap.size ≤ gx); have GH := Aside0.mk (Nat.le_of_eq hg.symm : wb.heap.size ≤ gx); have BKx := Aside0.mk hbox; have HBb := Aside0.mk hb; replace HB := Aside0.mk (below_step HB.out hb); have hcz0 : wc1.cell? ⟨gx, 0, none⟩ = some (.int .i64 0) := (blk_cell hbox 0).trans rfl; have hcz1 : wc1.cell? ⟨gx, 1, none⟩ = some (.int .i64 0) := (blk_cell hbox 1).trans rfl; have hfz0 := blk_frozen hbox 0; have hfz1 := blk_frozen hbox 1; clear hb hbox hg))
    go_meet
    case rel =>
      refine ⟨b, La, Lc, bt, base, Wa, Wc, gx, rfl, rfl, ⟨HH.out.below (below_set (below_set HBb.out GH.out) GH.out)⟩, ⟨?_⟩, ⟨below_set (below_set HB.out GE.out) GE.out⟩⟩
      exact blk_put (cs := #[.int .i64 0, .int .i64 0]) (blk_put (cs := #[.int .i64 0, .int .i64 0]) BKx.out 0 _ rfl) 1 _ rfl
  case rest =>
    obtain ⟨b1, La1, Lc1, bt1, base1, Wa1, Wc1, g2, rfl, rfl, HH1, BK2, HB'⟩ := hcut
    clear HB
    have HB := HB'
    clear HB'
    rename World => wz
    go_upto_region 2 with fail
    go_cut [3, 4] (fun v3 v4 wc => ∃ b La Lc bt base Wa Wc g4, v3 = .pointer (some ⟨b, 0, none⟩) ∧ v4 = .pointer (some ⟨g4, 0, none⟩) ∧ Aside0 (HyphAt wc b1 lowL (Tr.make (awP.map Tr.pq)) awW 2 2 La1 Lc1 bt1 base1 Wa1 Wc1) ∧ Aside0 (HyphAt wc b lowL (Tr.make (awP.map Tr.pq)) awW 2 4 La Lc bt base Wa Wc) ∧ Aside0 (wc.heap[g2]? = some (.cells #[.int .i64 0, .int .i64 0] 46 (0, 0))) ∧ Aside0 (wc.heap[g4]? = some (.cells #[.int .i64 0, .int .i64 0] 46 (0, 0))) ∧ Aside0 (Below w.heap.size w wc))
    case first =>
      go_wp2_with (first
      | ((with_reducible refine gate_callee (f := 36) rfl ?_); (refine goesL_ (some 14) rfl rfl Try.func36 (by kernel_rfl) rfl #[] rfl (by (try simp only [List.map_toArray, List.map_cons, List.map_nil]); first | done | rfl) ?_; refine (stanzalaw09_low.calls lowL _ rfl).mono ?_; rintro e wa ⟨v, rfl, hr, hb⟩; refine ⟨_, rfl, ?_⟩; obtain ⟨Al, cl, hv_, hl_, hc_⟩ := Kd.R_reads hr; subst hv_; have HLl := Aside0.mk hl_; have HLc := Aside0.mk hc_; replace HB := Aside0.mk (below_step HB.out hb); replace HH1 := Aside0.mk (HH1.out.below hb); replace BK2 := Aside0.mk (blk_below BK2.out hb); clear hb hr hl_ hc_))
      | ((with_reducible refine gate_callee (f := 26) rfl ?_); (refine goesL_ (some 15) rfl rfl Try.func26 (by kernel_rfl) rfl #[.string { data := #[104, 121, 49, 112, 32, 116, 97, 45, 98, 108, 101] }, .slice Al lowL.length cl, .int .i64 2, .int .i64 4] rfl (by (try simp only [List.map_toArray, List.map_cons, List.map_nil]); first | done | rfl) ?_; refine (new_ok 40 _ Al cl lowL 2 4 awP awW _ HLc.out HLl.out (by decide) low_check (by decide) (by decide) (by decide) (by decide) aw_parse aw_fit).mono ?_; rintro e wb ⟨b, La, Lc, bt, base, Wa, Wc, rfl, hH, hb⟩; refine ⟨_, rfl, ?_⟩; have HH := Aside0.mk hH; replace HB := Aside0.mk (below_step HB.out hb); replace HH1 := Aside0.mk (HH1.out.below hb); replace BK2 := Aside0.mk (blk_below BK2.out hb); clear hb hH HLl HLc))
      | ((with_reducible refine gate_dst (N := 4) rfl ?_); refine box_event ?hg (N := 4) ?hd (cs := #[.int .i64 0, .int .i64 0]) (t := 46) ?hr ?_; (case hd => rfl); (case hg => rfl); (case hr => first | (go_simp; done) | (go_simp; rfl)); intro gx hg wc1 hbox hb; have GE := Aside0.mk (by rw [hg]; exact below_size HB.out : w.heap.size ≤ gx); have GH := Aside0.mk (Nat.le_of_eq hg.symm : wb.heap.size ≤ gx); have BKx := Aside0.mk hbox; have HBb := Aside0.mk hb; replace HB := Aside0.mk (below_step HB.out hb); have hcz0 : wc1.cell? ⟨gx, 0, none⟩ = some (.int .i64 0) := (blk_cell hbox 0).trans rfl; have hcz1 : wc1.cell? ⟨gx, 1, none⟩ = some (.int .i64 0) := (blk_cell hbox 1).trans rfl; have hfz0 := blk_frozen hbox 0; have hfz1 := blk_frozen hbox 1; clear hb hbox hg))
      go_meet
      case rel =>
        refine ⟨b, La, Lc, bt, base, Wa, Wc, gx, rfl, rfl, ⟨HH1.out.below (below_set (below_set HBb.out GH.out) GH.out)⟩, ⟨HH.out.below (below_set (below_set HBb.out GH.out) GH.out)⟩, ⟨blk_below BK2.out (below_set (below_set HBb.out GH.out) GH.out)⟩, ⟨?_⟩, ⟨below_set (below_set HB.out GE.out) GE.out⟩⟩
        exact blk_put (cs := #[.int .i64 0, .int .i64 0]) (blk_put (cs := #[.int .i64 0, .int .i64 0]) BKx.out 0 _ rfl) 1 _ rfl
    case rest =>
      obtain ⟨b2, La2, Lc2, bt2, base2, Wa2, Wc2, g4, rfl, rfl, HH1', HH2, BK2', BK4, HB'⟩ := hcut
      clear HB HH1 BK2
      rename World => wy
      have q2 : wy.cell? ⟨g2, 0, none⟩ = some (.int .i64 0) := (blk_cell BK2'.out 0).trans rfl
      have q4 : wy.cell? ⟨g4, 0, none⟩ = some (.int .i64 0) := (blk_cell BK4.out 0).trans rfl
      go_upto_region 5 with fail
      clear q2 q4 BK2' BK4
      have HB := HB'
      have HH1 := HH1'
      clear HB' HH1'
      go_cut [5, 6, 7] (fun v5 v6 v7 wc => ∃ A5 c5 A6 c6 A7 c7, v5 = .slice A5 7 c5 ∧ v6 = .slice A6 6 c6 ∧ v7 = .slice A7 6 c7 ∧ Aside0 (Kd.C Kd.bool wc A5 7 [false, false, true, false, false, false, false]) ∧ Aside0 (Kd.C Kd.bool wc A6 6 [false, false, true, false, false, false]) ∧ Aside0 (Kd.C Kd.bool wc A7 6 [false, false, false, false, false, false]) ∧ Aside0 (Below w.heap.size w wc))
      case first =>
        go_wp2_with (first
          | ((with_reducible refine gate_dst (N := 27) rfl ?_); (refine Kd.R_lit (Kd.int .i32) (w0 := w) w.heap.size 21 ?hg (N := 27) ?hd (xs := hyphen) (inner := [.int .i32 104, .int .i32 121, .int .i32 112, .int .i32 104, .int .i32 101, .int .i32 110]) (ok := fun _ => True) (okp := fun _ => True) ?hr ?hp (fun _ hk => hk) trivial HB.out (below_size HB.out) (by decide) ?_; (case hd => rfl); (case hg => rfl); (case hr => first | (go_simp; done) | (go_simp; rfl)); (case hp => exact (Reps.one (show Kd.M (Kd.int .i32) _ _ _ 104 [.int .i32 104] from rfl) (Reps.one (show Kd.M (Kd.int .i32) _ _ _ 121 [.int .i32 121] from rfl) (Reps.one (show Kd.M (Kd.int .i32) _ _ _ 112 [.int .i32 112] from rfl) (Reps.one (show Kd.M (Kd.int .i32) _ _ _ 104 [.int .i32 104] from rfl) (Reps.one (show Kd.M (Kd.int .i32) _ _ _ 101 [.int .i32 101] from rfl) (Reps.one (show Kd.M (Kd.int .i32) _ _ _ 110 [.int .i32 110] from rfl) (Reps.none _ _)))))))); intro v27 w27 ho hb_ hg_ hn_; clear hn_; obtain ⟨A27, c27, hv_, hl_, hc_⟩ := Kd.R_reads ho; subst hv_; have HL27 := Aside0.mk hl_; have HC27 := Aside0.mk hc_; have hb := below_none hg_; replace HH1 := Aside0.mk (HH1.out.below hb); replace HH2 := Aside0.mk (HH2.out.below hb); replace HB := Aside0.mk hb_; clear ho hb_ hg_ hl_ hc_ hb))
          | ((with_reducible refine gate_callee (f := 33) rfl ?_); (refine goesL_ (some 28) rfl rfl Try.func33 (by kernel_rfl) rfl #[.pointer (some ⟨b1, 0, none⟩), .slice A27 hyphen.length c27] rfl (by (try simp only [List.map_toArray, List.map_cons, List.map_nil]); first | done | rfl) ?_; refine (word_calls b1 lowL awP awW 2 2 La1 Lc1 bt1 base1 Wa1 Wc1 A27 c27 hyphen _ HH1.out HC27.out HL27.out aw_fit hyphen_word (by decide) (by decide) aw_told).mono ?_; rintro e wa ⟨v, rfl, hr, hb⟩; refine ⟨_, rfl, ?_⟩; rw [show hyphen.length = 6 from rfl, aw_1] at hr; obtain ⟨A5, c5, hv_, hl_, hc_⟩ := Kd.R_reads hr; subst hv_; have HC5 := Aside0.mk hc_; replace HH1 := Aside0.mk (HH1.out.below hb); replace HH2 := Aside0.mk (HH2.out.below hb); replace HB := Aside0.mk (below_step HB.out hb); clear hb hr hl_ hc_))
          | ((with_reducible refine gate_dst (N := 30) rfl ?_); (refine Kd.R_lit (Kd.int .i32) (w0 := w) w.heap.size 21 ?hg (N := 30) ?hd (xs := table) (inner := [.int .i32 116, .int .i32 97, .int .i32 98, .int .i32 108, .int .i32 101]) (ok := fun _ => True) (okp := fun _ => True) ?hr ?hp (fun _ hk => hk) trivial HB.out (below_size HB.out) (by decide) ?_; (case hd => rfl); (case hg => rfl); (case hr => first | (go_simp; done) | (go_simp; rfl)); (case hp => exact (Reps.one (show Kd.M (Kd.int .i32) _ _ _ 116 [.int .i32 116] from rfl) (Reps.one (show Kd.M (Kd.int .i32) _ _ _ 97 [.int .i32 97] from rfl) (Reps.one (show Kd.M (Kd.int .i32) _ _ _ 98 [.int .i32 98] from rfl) (Reps.one (show Kd.M (Kd.int .i32) _ _ _ 108 [.int .i32 108] from rfl) (Reps.one (show Kd.M (Kd.int .i32) _ _ _ 101 [.int .i32 101] from rfl) (Reps.none _ _))))))); intro v30 w30 ho hb_ hg_ hn_; clear hn_; obtain ⟨A30, c30, hv_, hl_, hc_⟩ := Kd.R_reads ho; subst hv_; have HL30 := Aside0.mk hl_; have HC30 := Aside0.mk hc_; have hb := below_none hg_; replace HC5 := Aside0.mk (Kd.C_below HC5.out hb); replace HH1 := Aside0.mk (HH1.out.below hb); replace HH2 := Aside0.mk (HH2.out.below hb); replace HB := Aside0.mk hb_; clear ho hb_ hg_ hl_ hc_ hb))
          | ((with_reducible refine gate_callee (f := 33) rfl ?_); (refine goesL_ (some 31) rfl rfl Try.func33 (by kernel_rfl) rfl #[.pointer (some ⟨b1, 0, none⟩), .slice A30 table.length c30] rfl (by (try simp only [List.map_toArray, List.map_cons, List.map_nil]); first | done | rfl) ?_; refine (word_calls b1 lowL awP awW 2 2 La1 Lc1 bt1 base1 Wa1 Wc1 A30 c30 table _ HH1.out HC30.out HL30.out aw_fit table_word (by decide) (by decide) aw_told).mono ?_; rintro e wa ⟨v, rfl, hr, hb⟩; refine ⟨_, rfl, ?_⟩; rw [show table.length = 5 from rfl, aw_2] at hr; obtain ⟨A6, c6, hv_, hl_, hc_⟩ := Kd.R_reads hr; subst hv_; have HC6 := Aside0.mk hc_; replace HC5 := Aside0.mk (Kd.C_below HC5.out hb); replace HH2 := Aside0.mk (HH2.out.below hb); replace HB := Aside0.mk (below_step HB.out hb); clear hb hr hl_ hc_))
          | ((with_reducible refine gate_dst (N := 33) rfl ?_); (refine Kd.R_lit (Kd.int .i32) (w0 := w) w.heap.size 21 ?hg (N := 33) ?hd (xs := table) (inner := [.int .i32 116, .int .i32 97, .int .i32 98, .int .i32 108, .int .i32 101]) (ok := fun _ => True) (okp := fun _ => True) ?hr ?hp (fun _ hk => hk) trivial HB.out (below_size HB.out) (by decide) ?_; (case hd => rfl); (case hg => rfl); (case hr => first | (go_simp; done) | (go_simp; rfl)); (case hp => exact (Reps.one (show Kd.M (Kd.int .i32) _ _ _ 116 [.int .i32 116] from rfl) (Reps.one (show Kd.M (Kd.int .i32) _ _ _ 97 [.int .i32 97] from rfl) (Reps.one (show Kd.M (Kd.int .i32) _ _ _ 98 [.int .i32 98] from rfl) (Reps.one (show Kd.M (Kd.int .i32) _ _ _ 108 [.int .i32 108] from rfl) (Reps.one (show Kd.M (Kd.int .i32) _ _ _ 101 [.int .i32 101] from rfl) (Reps.none _ _))))))); intro v33 w33 ho hb_ hg_ hn_; clear hn_; obtain ⟨A33, c33, hv_, hl_, hc_⟩ := Kd.R_reads ho; subst hv_; have HL33 := Aside0.mk hl_; have HC33 := Aside0.mk hc_; have hb := below_none hg_; replace HC5 := Aside0.mk (Kd.C_below HC5.out hb); replace HC6 := Aside0.mk (Kd.C_below HC6.out hb); replace HH2 := Aside0.mk (HH2.out.below hb); replace HB := Aside0.mk hb_; clear ho hb_ hg_ hl_ hc_ hb))
          | ((with_reducible refine gate_callee (f := 33) rfl ?_); (refine goesL_ (some 34) rfl rfl Try.func33 (by kernel_rfl) rfl #[.pointer (some ⟨b2, 0, none⟩), .slice A33 table.length c33] rfl (by (try simp only [List.map_toArray, List.map_cons, List.map_nil]); first | done | rfl) ?_; refine (word_calls b2 lowL awP awW 2 4 La2 Lc2 bt2 base2 Wa2 Wc2 A33 c33 table _ HH2.out HC33.out HL33.out aw_fit table_word (by decide) (by decide) aw_told).mono ?_; rintro e wa ⟨v, rfl, hr, hb⟩; refine ⟨_, rfl, ?_⟩; rw [show table.length = 5 from rfl, aw_3] at hr; obtain ⟨A7, c7, hv_, hl_, hc_⟩ := Kd.R_reads hr; subst hv_; have HC7 := Aside0.mk hc_; replace HC5 := Aside0.mk (Kd.C_below HC5.out hb); replace HC6 := Aside0.mk (Kd.C_below HC6.out hb); replace HB := Aside0.mk (below_step HB.out hb); clear hb hr hl_ hc_)))
        go_meet
        case rel => exact ⟨A5, c5, A6, c6, A7, c7, rfl, rfl, rfl, HC5, HC6, HC7, HB⟩
      case rest =>
        obtain ⟨A5, c5, A6, c6, A7, c7, rfl, rfl, rfl, HC5, HC6, HC7, HB'⟩ := hcut
        obtain ⟨ad5, e5, x52⟩ := Kd.at_bool HC5.out 2 (by decide) (by decide)
        subst e5
        obtain ⟨ad5', e5, x53⟩ := Kd.at_bool HC5.out 3 (by decide) (by decide)
        injection e5 with e5
        subst e5
        obtain ⟨ad6, e6, x62⟩ := Kd.at_bool HC6.out 2 (by decide) (by decide)
        subst e6
        obtain ⟨ad7, e7, x72⟩ := Kd.at_bool HC7.out 2 (by decide) (by decide)
        subst e7
        replace x52 : wc.cell? ⟨ad5.block, ad5.off + 2, none⟩ = some (.bool true) := x52
        replace x53 : wc.cell? ⟨ad5.block, ad5.off + 3, none⟩ = some (.bool false) := x53
        replace x62 : wc.cell? ⟨ad6.block, ad6.off + 2, none⟩ = some (.bool true) := x62
        replace x72 : wc.cell? ⟨ad7.block, ad7.off + 2, none⟩ = some (.bool false) := x72
        go_wp2_with fail
        go_ret
        exact ⟨rfl, HB'.out⟩
end Go.Proofs.Ytoefjhdcipgacaa.Hy
end
section
namespace Go.Proofs.Ytoefjhdcipgacaa.Hy
open Go.RowKit Go.Proofs.YtoefjhdcipgacaaW.PrintWords Go.Proofs.YtoefjhdcipgacaaW.PrintLast Go.Proofs.YtoefjhdcipgacaaW.PrintMore
open Go.Proofs.Ytoefjhdcipgacaa.PA Go.Proofs.Ytoefjhdcipgacaa.Dec
theorem low_check' : hyph_Check.f 40000 lowL = some true := mono_le (hyph_Check.mono lowL) low_check 40000 (by decide)
abbrev codeOf (s : ByteArray) : Int := (parseOf s).2.2.1
abbrev atOf (s : ByteArray) : Int := (parseOf s).2.2.2
abbrev patsOf (s : ByteArray) : List S39 := (parseOf s).1
abbrev toldOf (s : ByteArray) : List S39 := (parseOf s).2.1
theorem pparse_zero (f : Nat) : ∀ (l : List S66) (xs ws : List S39), (pparse f l xs ws).2.2.1 = 0 → (pparse f l xs ws).2.2.2 = 0 := by
  induction f with
  | zero => intro l xs ws _; rfl
  | succ f ih =>
    intro l xs ws h
    cases l with
    | nil => rfl
    | cons s t =>
      rw [pparse] at h ⊢
      split at h
      · rename_i hb; rw [if_pos hb]; exact ih _ _ _ h
      · rename_i hb
        rw [if_neg hb]
        split at h
        · cases h
        · rename_i hm
          rw [if_neg hm]
          dsimp only at h ⊢
          split at h
          · rename_i hok
            rw [if_pos hok]
            split at h
            · rename_i hh
              rw [if_pos hh]
              split at h
              · cases h
              · rename_i hk; rw [if_neg hk]; exact ih _ _ _ h
            · rename_i hh; rw [if_neg hh]; exact ih _ _ _ h
          · cases h
theorem at_zero {s : ByteArray} (h : codeOf s = 0) : atOf s = 0 := by
  unfold codeOf atOf parseOf at *
  split at h
  · cases h
  · rename_i hs; rw [if_neg hs]; exact pparse_zero _ _ _ _ h
theorem parse_eq' (s : ByteArray) : pats_Parse.f 40000 s = some (patsOf s, toldOf s, codeOf s, atOf s) := parse_eq s 40000 (Nat.le_refl _)
theorem newB (s : ByteArray) (A : Option Addr) (c : Nat) (ls : List S63) (left right : Int) (w : World) (hl : Kd.C k63 w A ls.length ls) (hlc : ls.length ≤ c) (hck : hyph_Check.f 40000 ls = some true) (h1 : 1 ≤ left ∧ left ≤ 24) (h2 : 1 ≤ right ∧ right ≤ 24) (hc : codeOf s ≠ 0) :
    Calls Try.prog 26 #[.string s, .slice A ls.length c, .int .i64 left, .int .i64 right] w fun e w' => e = .returned (.tuple #[.pointer none, .agg #[.int .i64 (codeOf s), .int .i64 (atOf s)]]) ∧ Below w.heap.size w w' :=
  new_bad3 40000 s A c ls left right (patsOf s) (toldOf s) (codeOf s) (atOf s) w hl hlc hck h1.1 h2.1 h1.2 h2.2 (parse_eq' s) hc
theorem newC (s : ByteArray) (A : Option Addr) (c : Nat) (ls : List S63) (left right : Int) (w : World) (hl : Kd.C k63 w A ls.length ls) (hlc : ls.length ≤ c) (h8 : ls.length ≤ 1000000) (hck : hyph_Check.f 40000 ls = some true) (h1 : 1 ≤ left ∧ left ≤ 24) (h2 : 1 ≤ right ∧ right ≤ 24) (hc : codeOf s = 0) :
    Calls Try.prog 26 #[.string s, .slice A ls.length c, .int .i64 left, .int .i64 right] w fun e w' => ∃ b La Lc bt base Wa Wc, e = .returned (.tuple #[.pointer (some ⟨b, 0, none⟩), .agg #[.int .i64 0, .int .i64 0]]) ∧ HyphAt w' b ls (Tr.make ((patsOf s).map Tr.pq)) (toldOf s) left right La Lc bt base Wa Wc ∧ Below w.heap.size w w' :=
  new_ok 40000 s A c ls left right (patsOf s) (toldOf s) w hl hlc h8 hck h1.1 h2.1 h1.2 h2.2 (by rw [parse_eq' s, hc, at_zero hc]) (parseOf_fit s)
def letter4 (r : Int) : Int := rd [97, 98, 99, 100] (r % 4294967296 % 4)
def fewL (fit : Bool) (l : List Int) : List Int := (l.take 80).map fun r => if fit = true then letter4 r else r
theorem few_run (fit : Bool) (l : List Int) (m : Nat) : ∀ (i k : Nat) (xs : List Int), 80 - i ≤ m → i ≤ l.length → i ≤ 80 → xs.length = i → m + 2 ≤ k → stanzalaw09_few.l0 k fit xs l (l.length : Int) (i : Int) = some (xs ++ ((l.take 80).drop i).map fun r => if fit = true then letter4 r else r) := by
  induction m with
  | zero =>
    intro i k xs hm hi h8 hx hk
    have hi8 : i = 80 := by omega
    obtain ⟨k, rfl⟩ : ∃ k', k = k' + 1 := ⟨k - 1, by omega⟩
    rw [stanzalaw09_few.l0.eq_2, List.drop_eq_nil_of_le (by rw [List.length_take]; omega), List.map_nil, List.append_nil]
    by_cases h : (i : Int) < (l.length : Int)
    · rw [if_pos h, if_pos (by omega), if_pos h, if_pos (by omega)]
    · rw [if_neg h]
  | succ m ih =>
    intro i k xs hm hi h8 hx hk
    obtain ⟨k, rfl⟩ : ∃ k', k = k' + 1 := ⟨k - 1, by omega⟩
    rw [stanzalaw09_few.l0.eq_2]
    by_cases h : (i : Int) < (l.length : Int)
    · rw [if_pos h, if_pos (by omega), if_pos h]
      by_cases h80 : (i : Int) ≥ 80
      · rw [if_pos h80, List.drop_eq_nil_of_le (by rw [List.length_take]; omega), List.map_nil, List.append_nil]
      · rw [if_neg h80]
        have hil : i < l.length := by omega
        have hit : i < (l.take 80).length := by rw [List.length_take]; omega
        have hr : rd l (i : Int) = l[i] := by simp [rd, List.getD_eq_getElem?_getD, List.getElem?_eq_getElem hil]
        have hd : (l.take 80).drop i = l[i] :: (l.take 80).drop (i + 1) := by
          rw [List.drop_eq_getElem_cons hit, List.getElem_take]
        have hw : wrap64 ((i : Int) + 1) = ((i + 1 : Nat) : Int) := by rw [w64 _ ⟨by omega, by omega⟩]; omega
        rw [hd, List.map_cons, hr, hw]
        cases fit with
        | true =>
          rw [if_pos rfl, Option.bind_some, if_pos (by omega), if_pos (by simp only [List.length_cons, List.length_nil]; omega), if_pos (by omega)]
          rw [ih (i + 1) k _ (by omega) (by omega) (by omega) (by rw [List.length_append, hx]; rfl) (by omega), List.append_assoc]
          rfl
        | false =>
          rw [if_neg (by decide), if_pos (by omega)]
          rw [ih (i + 1) k _ (by omega) (by omega) (by omega) (by rw [List.length_append, hx]; rfl) (by omega), List.append_assoc]
          rfl
    · rw [if_neg h, List.drop_eq_nil_of_le (by rw [List.length_take]; omega), List.map_nil, List.append_nil]
theorem few_eq (fit : Bool) (l : List Int) : stanzalaw09_few.f 100 l fit = some (fewL fit l) := by
  have := few_run fit l 80 0 100 [] (by omega) (Nat.zero_le _) (by omega) rfl (by omega)
  rw [List.nil_append, List.drop_zero] at this
  exact this
theorem letter4_in (r : Int) : 97 ≤ letter4 r ∧ letter4 r ≤ 100 := by
  unfold letter4
  have h1 : 0 ≤ r % 4294967296 % 4 := Int.emod_nonneg _ (by decide)
  have h2 : r % 4294967296 % 4 < 4 := Int.emod_lt_of_pos _ (by decide)
  obtain ⟨n, hn⟩ : ∃ n : Nat, (r % 4294967296 % 4) = (n : Int) := ⟨(r % 4294967296 % 4).toNat, by omega⟩
  rw [hn]
  have : n < 4 := by omega
  match n, this with
  | 0, _ => exact ⟨by decide, by decide⟩
  | 1, _ => exact ⟨by decide, by decide⟩
  | 2, _ => exact ⟨by decide, by decide⟩
  | 3, _ => exact ⟨by decide, by decide⟩
theorem fewL_len (fit : Bool) (l : List Int) : (fewL fit l).length ≤ 80 := by
  unfold fewL
  rw [List.length_map, List.length_take]; omega
theorem fewL_word (fit : Bool) (l : List Int) (h : ∀ r ∈ l, Tr.In32 r) : Tr.Word (fewL fit l) := by
  refine ⟨Nat.le_trans (fewL_len fit l) (by decide), fun r hr => ?_⟩
  obtain ⟨s, hs, rfl⟩ := List.mem_map.1 hr
  cases fit with
  | false => exact h s (List.mem_of_mem_take hs)
  | true => have := letter4_in s; exact ⟨by show _ ≤ letter4 s; omega, by show letter4 s ≤ _; omega⟩
theorem pts_rd (V : List Int) (n : Nat) (x y : Int) (j : Nat) (h : j < n + 1) : rdOf false (pts V n x y) (j : Int) = ptAt V n x y j := by
  rw [rdOf, Int.toNat_natCast]
  exact pts_getD V n x y j h
end Go.Proofs.Ytoefjhdcipgacaa.Hy
end
section
namespace Go.Proofs.Ytoefjhdcipgacaa.Dec
open Go.RowKit Go.Proofs.YtoefjhdcipgacaaW.PrintWords Go.Proofs.YtoefjhdcipgacaaW.PrintLast Go.Proofs.YtoefjhdcipgacaaW.PrintMore
open Go.Proofs.Ytoefjhdcipgacaa.PA
theorem rd_left {T U : List Int} {i : Int} (h0 : 0 ≤ i) (h : i < (T.length : Int)) : rd (T ++ U) i = rd T i := by
  rw [rd, rd, List.getD_eq_getElem?_getD, List.getD_eq_getElem?_getD, List.getElem?_append_left (by omega)]
theorem rd_right {T U : List Int} {k : Nat} : rd (T ++ U) ((T.length + k : Nat) : Int) = rd U (k : Int) := by
  rw [rd, rd, List.getD_eq_getElem?_getD, List.getD_eq_getElem?_getD, Int.toNat_natCast, Int.toNat_natCast, List.getElem?_append_right (by omega), show T.length + k - T.length = k by omega]
theorem inB_app {T U : List Int} {i a b : Int} (h0 : 0 ≤ i) (hi : i ≤ (T.length : Int)) (ha : 128 ≤ a) : inB (T ++ 32 :: U) i a b ↔ inB T i a b := by
  unfold inB
  rcases Int.lt_or_eq_of_le hi with h | h
  · rw [rd_left h0 h, List.length_append]
    constructor
    · rintro ⟨_, h2, h3⟩; exact ⟨h, h2, h3⟩
    · rintro ⟨_, h2, h3⟩; exact ⟨by omega, h2, h3⟩
  · subst h
    constructor
    · rintro ⟨_, h2, _⟩
      exfalso
      have := @rd_right T (32 :: U) 0
      rw [show ((T.length + 0 : Nat) : Int) = (T.length : Int) by simp] at this
      rw [this] at h2
      have h32 : rd (32 :: U) ((0 : Nat) : Int) = 32 := rfl
      omega
    · rintro ⟨h1, _⟩; omega
theorem dec_app {T U : List Int} {i : Int} (h0 : 0 ≤ i) (h : i < (T.length : Int)) : dec (T ++ 32 :: U) i = dec T i := by
  have hl := lo_ge (rd T i)
  unfold dec
  dsimp only
  rw [rd_left h0 h]
  by_cases c1 : rd T i < 128
  · rw [if_pos c1, if_pos c1]
  rw [if_neg c1, if_neg c1]
  by_cases c2 : rd T i < 194 ∨ 244 < rd T i
  · rw [if_pos c2, if_pos c2]
  rw [if_neg c2, if_neg c2]
  have b1 := @inB_app T U (i + 1) (lo (rd T i)) (hi (rd T i)) (by omega) (by omega) hl
  by_cases d1 : inB T (i + 1) (lo (rd T i)) (hi (rd T i))
  · rw [if_neg (show ¬ ¬ inB (T ++ 32 :: U) (i + 1) (lo (rd T i)) (hi (rd T i)) from fun hn => hn (b1.2 d1)), if_neg (show ¬ ¬ inB T (i + 1) (lo (rd T i)) (hi (rd T i)) from fun hn => hn d1)]
    have l1 := d1.1
    rw [rd_left (by omega) l1]
    by_cases c3 : rd T i < 224
    · rw [if_pos c3, if_pos c3]
    rw [if_neg c3, if_neg c3]
    have b2 := @inB_app T U (i + 2) 128 191 (by omega) (by omega) (by decide)
    by_cases d2 : inB T (i + 2) 128 191
    · rw [if_neg (show ¬ ¬ inB (T ++ 32 :: U) (i + 2) 128 191 from fun hn => hn (b2.2 d2)), if_neg (show ¬ ¬ inB T (i + 2) 128 191 from fun hn => hn d2)]
      have l2 := d2.1
      rw [rd_left (by omega) l2]
      by_cases c4 : rd T i < 240
      · rw [if_pos c4, if_pos c4]
      rw [if_neg c4, if_neg c4]
      have b3 := @inB_app T U (i + 3) 128 191 (by omega) (by omega) (by decide)
      by_cases d3 : inB T (i + 3) 128 191
      · rw [if_neg (show ¬ ¬ inB (T ++ 32 :: U) (i + 3) 128 191 from fun hn => hn (b3.2 d3)), if_neg (show ¬ ¬ inB T (i + 3) 128 191 from fun hn => hn d3), rd_left (by omega) d3.1]
      · rw [if_pos (show ¬ inB (T ++ 32 :: U) (i + 3) 128 191 from fun hn => d3 (b3.1 hn)), if_pos (show ¬ inB T (i + 3) 128 191 from d3)]
    · rw [if_pos (show ¬ inB (T ++ 32 :: U) (i + 2) 128 191 from fun hn => d2 (b2.1 hn)), if_pos (show ¬ inB T (i + 2) 128 191 from d2)]
  · rw [if_pos (show ¬ inB (T ++ 32 :: U) (i + 1) (lo (rd T i)) (hi (rd T i)) from fun hn => d1 (b1.1 hn)), if_pos (show ¬ inB T (i + 1) (lo (rd T i)) (hi (rd T i)) from d1)]
theorem dec_fit {T : List Int} {i : Int} (h : i < (T.length : Int)) : i + (dec T i).2 ≤ (T.length : Int) := by
  unfold dec
  dsimp only
  repeat' split
  all_goals (simp only [inB] at *; omega)
def asciiFrom (i : Int) : List Int → List S66
  | [] => []
  | c :: t => ⟨c, i, 1⟩ :: asciiFrom (i + 1) t
theorem decAll_ascii (U : List Int) : ∀ (T : List Int) (f : Nat), (∀ c ∈ U, 0 ≤ c ∧ c < 128) → U.length ≤ f → decAll (T ++ U) f (T.length : Int) = asciiFrom (T.length : Int) U := by
  induction U with
  | nil =>
    intro T f _ _
    cases f with
    | zero => rfl
    | succ f => rw [decAll, if_neg (by simp), asciiFrom]
  | cons c U ih =>
    intro T f h hf
    rw [List.length_cons] at hf
    obtain ⟨f, rfl⟩ : ∃ f', f = f' + 1 := ⟨f - 1, by omega⟩
    have hc := h c (List.mem_cons_self ..)
    have hr : rd (T ++ c :: U) (T.length : Int) = c := by
      have := @rd_right T (c :: U) 0
      rw [show ((T.length + 0 : Nat) : Int) = (T.length : Int) by simp] at this
      rw [this]; rfl
    have hd : dec (T ++ c :: U) (T.length : Int) = (c, 1) := by
      unfold dec
      dsimp only
      rw [hr, if_pos hc.2]
    rw [decAll, if_pos (by rw [List.length_append, List.length_cons]; omega), hd, asciiFrom]
    have := ih (T ++ [c]) f (fun x hx => h x (List.mem_cons_of_mem _ hx)) (by omega)
    rw [List.append_assoc, List.singleton_append, List.length_append, List.length_singleton] at this
    dsimp only
    rw [show ((T.length : Int) + 1) = ((T.length + 1 : Nat) : Int) by omega, this]
theorem decAll_app {T U : List Int} (hU : ∀ c ∈ U, 0 ≤ c ∧ c < 128) (f : Nat) : ∀ (i : Int) (g : Nat), 0 ≤ i → i ≤ (T.length : Int) → (T.length : Int) - i ≤ f → (T.length : Int) - i + 1 + U.length ≤ g → decAll (T ++ 32 :: U) g i = decAll T f i ++ asciiFrom (T.length : Int) (32 :: U) := by
  have hU' : ∀ c ∈ 32 :: U, 0 ≤ c ∧ c < 128 := fun c hc => by
    rcases List.mem_cons.1 hc with rfl | hc
    · decide
    · exact hU c hc
  induction f with
  | zero =>
    intro i g h0 h1 h2 h3
    have hi : i = (T.length : Int) := by omega
    subst hi
    rw [decAll_ascii (32 :: U) T g hU' (by rw [List.length_cons]; omega), decAll, List.nil_append]
  | succ f ih =>
    intro i g h0 h1 h2 h3
    rcases Int.lt_or_eq_of_le h1 with h | h
    · obtain ⟨g, rfl⟩ : ∃ g', g = g' + 1 := ⟨g - 1, by omega⟩
      have hd := dec_len T i
      have hfit := dec_fit h
      rw [decAll, if_pos (by rw [List.length_append, List.length_cons]; omega), dec_app h0 h, decAll, if_pos h, List.cons_append]
      rw [ih (i + (dec T i).2) g (by omega) hfit (by omega) (by omega)]
    · subst h
      rw [decAll_ascii (32 :: U) T g hU' (by rw [List.length_cons]; omega), decAll, if_neg (Int.lt_irrefl _), List.nil_append]
theorem takeWhile_app {α : Type} (p : α → Bool) (b : α) (hb : p b = false) (U : List α) (L : List α) : (L ++ b :: U).takeWhile p = L.takeWhile p ∧ (L ++ b :: U).dropWhile p = L.dropWhile p ++ b :: U := by
  induction L with
  | nil => rw [List.nil_append, List.takeWhile_cons_of_neg (by simp [hb]), List.dropWhile_cons_of_neg (by simp [hb])]; exact ⟨rfl, rfl⟩
  | cons a L ih =>
    rw [List.cons_append]
    by_cases h : p a = true
    · rw [List.takeWhile_cons_of_pos h, List.takeWhile_cons_of_pos h, List.dropWhile_cons_of_pos h, List.dropWhile_cons_of_pos h, ih.1, ih.2]
      exact ⟨rfl, rfl⟩
    · rw [List.takeWhile_cons_of_neg h, List.takeWhile_cons_of_neg h, List.dropWhile_cons_of_neg h, List.dropWhile_cons_of_neg h]
      exact ⟨rfl, rfl⟩
theorem dropWhile_lt {s : S66} {t : List S66} (h : nb s = true) : ((s :: t).dropWhile nb).length ≤ t.length := by
  rw [List.dropWhile_cons_of_pos h]
  exact (List.dropWhile_sublist nb).length_le
theorem pparse_fuel (f : Nat) : ∀ (g : Nat) (l : List S66) (xs ws : List S39), l.length ≤ f → l.length ≤ g → pparse f l xs ws = pparse g l xs ws := by
  induction f with
  | zero =>
    intro g l xs ws hf hg
    have : l = [] := List.eq_nil_of_length_eq_zero (by omega)
    subst this
    cases g <;> rfl
  | succ f ih =>
    intro g l xs ws hf hg
    cases l with
    | nil => cases g <;> rfl
    | cons s t =>
      rw [List.length_cons] at hf hg
      obtain ⟨g, rfl⟩ : ∃ g', g = g' + 1 := ⟨g - 1, by omega⟩
      rw [pparse, pparse]
      by_cases hb : blankB s.f0 = true
      · rw [if_pos hb, if_pos hb]; exact ih g t xs ws (by omega) (by omega)
      · have hn : nb s = true := by rw [nb]; simpa using hb
        have hd := dropWhile_lt (t := t) hn
        rw [if_neg hb, if_neg hb]
        dsimp only
        have h1 := ih g ((s :: t).dropWhile nb) xs (ws ++ [⟨(oneP ((s :: t).takeWhile nb)).1, (oneP ((s :: t).takeWhile nb)).2.1⟩]) (by omega) (by omega)
        have h2 := ih g ((s :: t).dropWhile nb) (xs ++ [⟨(oneP ((s :: t).takeWhile nb)).1, (oneP ((s :: t).takeWhile nb)).2.1⟩]) ws (by omega) (by omega)
        rw [h1, h2]
theorem pparse_app (b : S66) (hb : blankB b.f0 = true) (U : List S66) (f : Nat) : ∀ (L : List S66) (xs ws : List S39), L.length ≤ f →
    pparse (f + 1 + U.length) (L ++ b :: U) xs ws = if (pparse f L xs ws).2.2.1 = 0 then pparse U.length U (pparse f L xs ws).1 (pparse f L xs ws).2.1 else pparse f L xs ws := by
  have hnb : nb b = false := by rw [nb, hb]; rfl
  have base : ∀ f xs ws, pparse (f + 1 + U.length) (b :: U) xs ws = pparse U.length U xs ws := by
    intro f xs ws
    rw [show f + 1 + U.length = f + U.length + 1 by omega, pparse, if_pos hb]
    exact pparse_fuel _ _ _ _ _ (by omega) (Nat.le_refl _)
  induction f with
  | zero =>
    intro L xs ws hL
    have : L = [] := List.eq_nil_of_length_eq_zero (by omega)
    subst this
    rw [List.nil_append, base, pparse, if_pos rfl]
  | succ f ih =>
    intro L xs ws hL
    cases L with
    | nil => rw [List.nil_append, base, pparse, if_pos rfl]
    | cons s t =>
      rw [List.length_cons] at hL
      rw [List.cons_append, show f + 1 + 1 + U.length = (f + 1 + U.length) + 1 by omega, pparse, pparse, ← List.cons_append]
      obtain ⟨e1, e2⟩ := takeWhile_app nb b hnb U (s :: t)
      rw [e1, e2]
      by_cases hs : blankB s.f0 = true
      · rw [if_pos hs, if_pos hs]; exact ih t xs ws (by omega)
      · have hn : nb s = true := by rw [nb]; simpa using hs
        have hd := dropWhile_lt (t := t) hn
        rw [if_neg hs, if_neg hs]
        by_cases hm : xs.length + ws.length ≥ 256
        · rw [if_pos hm, if_pos hm]; dsimp only; rw [if_neg (by decide : ¬ (24 : Int) = 0)]
        · rw [if_neg hm, if_neg hm]
          dsimp only
          by_cases hok : (oneP ((s :: t).takeWhile nb)).2.2 = true
          · rw [if_pos hok, if_pos hok]
            by_cases hh : Hy.hasHyphen ((s :: t).takeWhile nb) = true
            · rw [if_pos hh, if_pos hh]
              by_cases hk : Hy.hasKey ws (oneP ((s :: t).takeWhile nb)).1 = true
              · rw [if_pos hk, if_pos hk]; dsimp only; rw [if_neg (by decide : ¬ (23 : Int) = 0)]
              · rw [if_neg hk, if_neg hk]; exact ih _ _ _ (by omega)
            · rw [if_neg hh, if_neg hh]; exact ih _ _ _ (by omega)
          · rw [if_neg hok, if_neg hok]; dsimp only; rw [if_neg (by decide : ¬ (30 : Int) = 0)]
def toldU (cut : Nat → Bool) : Nat → List Int → List Int
  | _, [] => []
  | i, c :: t => if 0 < i ∧ cut i = true then 45 :: c :: toldU cut (i + 1) t else c :: toldU cut (i + 1) t
def valsFrom (cut : Nat → Bool) : Nat → List Int → List Int
  | _, [] => [0]
  | i, _ :: t => (if 0 < i ∧ cut i = true then 1 else 0) :: valsFrom cut (i + 1) t
theorem toldU_ne (cut : Nat → Bool) (i : Nat) (c : Int) (t : List Int) : toldU cut i (c :: t) ≠ [] := by
  rw [toldU]; split <;> exact List.cons_ne_nil _ _
theorem one_told (cut : Nat → Bool) (n : Nat) (w : List Int) : ∀ (i : Nat) (m : Int) (xs vs : List Int), (∀ c ∈ w, 97 ≤ c ∧ c ≤ 100) → xs.length = i → vs.length = i →
    oneM true n (toldU cut i w) false m xs (vs ++ [0]) = (xs ++ w, vs ++ valsFrom cut i w, decide (m + w.length > 0) && decide ((xs.length : Int) + w.length ≤ 24)) := by
  induction w with
  | nil => intro i m xs vs _ _ _; simp [toldU, oneM, valsFrom]
  | cons c t ih =>
    intro i m xs vs hc hx hv
    have hcc := hc c (List.mem_cons_self ..)
    have step : ∀ set vs', oneM true n (c :: toldU cut (i + 1) t) set m xs vs' = oneM true n (toldU cut (i + 1) t) false (m + 1) (xs ++ [c]) (vs' ++ [0]) := by
      intro set vs'
      rw [oneM, if_neg (by omega), if_neg (by omega), if_neg (by omega)]
    have fin : ∀ v, oneM true n (toldU cut (i + 1) t) false (m + 1) (xs ++ [c]) ((vs ++ [v]) ++ [0]) = (xs ++ c :: t, vs ++ v :: valsFrom cut (i + 1) t, decide (m + ((c :: t).length : Nat) > 0) && decide ((xs.length : Int) + ((c :: t).length : Nat) ≤ 24)) := by
      intro v
      rw [ih (i + 1) (m + 1) (xs ++ [c]) (vs ++ [v]) (fun x hx => hc x (List.mem_cons_of_mem _ hx)) (by rw [List.length_append, hx]; rfl) (by rw [List.length_append, hv]; rfl)]
      rw [List.append_assoc, List.singleton_append, List.append_assoc, List.singleton_append]
      simp only [List.length_append, List.length_cons, List.length_nil, Nat.zero_add]
      rw [show m + 1 + (t.length : Int) = m + ((t.length + 1 : Nat) : Int) by omega, show ((xs.length + 1 : Nat) : Int) + (t.length : Int) = (xs.length : Int) + ((t.length + 1 : Nat) : Int) by omega]
    rw [toldU, valsFrom]
    by_cases hcut : 0 < i ∧ cut i = true
    · rw [if_pos hcut, if_pos hcut, oneM, if_neg (by decide), if_pos (Or.inl rfl)]
      have no : ¬ (false = true ∨ true ≠ ((45 : Int) == 45) ∨ (true = true ∧ (xs.length = 0 ∨ c :: toldU cut (i + 1) t = []))) := by
        rintro (h | h | ⟨_, h | h⟩)
        · cases h
        · exact h (by decide)
        · omega
        · cases h
      have hset : (vs ++ [0]).set xs.length (1 : Int) = vs ++ [1] := by
        rw [hx, ← hv]
        simp
      rw [if_neg no, if_pos rfl, hset, step, fin]
    · rw [if_neg hcut, if_neg hcut, step, fin]
theorem valsFrom_get (cut : Nat → Bool) (w : List Int) : ∀ (i j : Nat), j ≤ w.length → rd (valsFrom cut i w) (j : Int) = if j < w.length ∧ 0 < i + j ∧ cut (i + j) = true then 1 else 0 := by
  induction w with
  | nil =>
    intro i j hj
    have : j = 0 := by simpa using hj
    subst this
    rw [if_neg (by simp)]
    rfl
  | cons c t ih =>
    intro i j hj
    cases j with
    | zero =>
      show (if 0 < i ∧ cut i = true then (1 : Int) else 0) = _
      by_cases h : 0 < i ∧ cut i = true
      · rw [if_pos h, if_pos ⟨by simp, h⟩]
      · rw [if_neg h, if_neg (fun hh => h hh.2)]
    | succ j =>
      rw [List.length_cons] at hj ⊢
      have := ih (i + 1) j (by omega)
      rw [show rd (valsFrom cut i (c :: t)) ((j + 1 : Nat) : Int) = rd (valsFrom cut (i + 1) t) (j : Int) from rfl, this, show i + 1 + j = i + (j + 1) by omega]
      by_cases h : j < t.length ∧ 0 < i + (j + 1) ∧ cut (i + (j + 1)) = true
      · rw [if_pos h, if_pos ⟨by omega, h.2⟩]
      · rw [if_neg h, if_neg (fun hh => h ⟨by omega, hh.2⟩)]
theorem ascii_map (U : List Int) : ∀ i, (asciiFrom i U).map S66.f0 = U ∧ (asciiFrom i U).length = U.length := by
  induction U with
  | nil => intro i; exact ⟨rfl, rfl⟩
  | cons c U ih => intro i; rw [asciiFrom, List.map_cons, List.length_cons, List.length_cons, (ih (i + 1)).1, (ih (i + 1)).2]; exact ⟨rfl, rfl⟩
theorem toldU_in (cut : Nat → Bool) (w : List Int) : ∀ i, (∀ c ∈ w, 97 ≤ c ∧ c ≤ 100) → (∀ c ∈ toldU cut i w, c = 45 ∨ (97 ≤ c ∧ c ≤ 100)) ∧ (toldU cut i w).length ≤ 2 * w.length := by
  induction w with
  | nil => intro i _; exact ⟨fun c hc => (by cases hc), Nat.le_refl _⟩
  | cons c t ih =>
    intro i h
    obtain ⟨a1, a2⟩ := ih (i + 1) (fun x hx => h x (List.mem_cons_of_mem _ hx))
    have hc := h c (List.mem_cons_self ..)
    rw [toldU]
    split
    · refine ⟨fun x hx => ?_, by simp only [List.length_cons]; omega⟩
      rcases List.mem_cons.1 hx with rfl | hx
      · exact .inl rfl
      · rcases List.mem_cons.1 hx with rfl | hx
        · exact .inr hc
        · exact a1 x hx
    · refine ⟨fun x hx => ?_, by simp only [List.length_cons]; omega⟩
      rcases List.mem_cons.1 hx with rfl | hx
      · exact .inr hc
      · exact a1 x hx
theorem toldU_hyphen (cut : Nat → Bool) (w : List Int) : ∀ i, (∃ j, j < w.length ∧ 0 < i + j ∧ cut (i + j) = true) → (45 : Int) ∈ toldU cut i w := by
  induction w with
  | nil => rintro i ⟨j, hj, _⟩; exact absurd hj (Nat.not_lt_zero j)
  | cons c t ih =>
    rintro i ⟨j, hj, h0, h1⟩
    rw [toldU]
    by_cases h : 0 < i ∧ cut i = true
    · rw [if_pos h]; exact List.mem_cons_self ..
    · rw [if_neg h]
      cases j with
      | zero => exact absurd ⟨h0, h1⟩ h
      | succ j =>
        rw [List.length_cons] at hj
        exact List.mem_cons_of_mem _ (ih (i + 1) ⟨j, by omega, by omega, by rw [show i + 1 + j = i + (j + 1) by omega]; exact h1⟩)
theorem takeWhile_all {α : Type} (p : α → Bool) (l : List α) (h : ∀ x ∈ l, p x = true) : l.takeWhile p = l := by
  induction l with
  | nil => rfl
  | cons a l ih => rw [List.takeWhile_cons_of_pos (h a (List.mem_cons_self ..)), ih (fun x hx => h x (List.mem_cons_of_mem _ hx))]
theorem told_parse (cut : Nat → Bool) (t s2 : ByteArray) (w : List Int) (hc : Hy.codeOf t = 0) (hw : ∀ c ∈ w, 97 ≤ c ∧ c ≤ 100) (h1 : 1 ≤ w.length) (h2 : w.length ≤ 20) (hs : s2.size ≤ 4096) (ht : t.size ≤ 4096)
    (hb : PA.bytesOf s2 = PA.bytesOf t ++ 32 :: toldU cut 0 w) (hsome : ∃ j, j < w.length ∧ 0 < j ∧ cut j = true) :
    (Hy.codeOf s2 = 23 ∨ Hy.codeOf s2 = 24) ∨ (Hy.codeOf s2 = 0 ∧ Hy.patsOf s2 = Hy.patsOf t ∧ Hy.toldOf s2 = Hy.toldOf t ++ [⟨w, valsFrom cut 0 w⟩] ∧ Hy.hasKey (Hy.toldOf t) w = false) := by
  obtain ⟨hU, hUl⟩ := toldU_in cut w 0 hw
  have hUa : ∀ c ∈ toldU cut 0 w, 0 ≤ c ∧ c < 128 := fun c h => by rcases hU c h with rfl | h <;> omega
  obtain ⟨U, hUe⟩ : ∃ U, U = toldU cut 0 w := ⟨_, rfl⟩
  obtain ⟨V, hV⟩ : ∃ V, V = asciiFrom ((PA.bytesOf t).length + 1 : Int) U := ⟨_, rfl⟩
  obtain ⟨m1, m2⟩ := ascii_map U ((PA.bytesOf t).length + 1 : Int)
  rw [← hV] at m1 m2
  have hsg : signs s2 = signs t ++ ⟨32, (PA.bytesOf t).length, 1⟩ :: V := by
    unfold signs
    rw [hb, decAll_app hUa (PA.bytesOf t).length 0 _ (Int.le_refl _) (by omega) (by omega) (by rw [List.length_append, List.length_cons]; omega), asciiFrom, hV, hUe]
  have ep : parseOf t = pparse (signs t).length (signs t) [] [] := by rw [parseOf, if_neg (by omega)]
  have ep2 : parseOf s2 = pparse (signs s2).length (signs s2) [] [] := by rw [parseOf, if_neg (by omega)]
  have hc' : (pparse (signs t).length (signs t) [] []).2.2.1 = 0 := by rw [← ep]; exact hc
  have happ := pparse_app ⟨32, (PA.bytesOf t).length, 1⟩ (show blankB 32 = true from rfl) V (signs t).length (signs t) [] [] (Nat.le_refl _)
  rw [if_pos hc', ← ep] at happ
  have hall : ∀ s ∈ V, nb s = true := by
    intro s hs
    have : s.f0 ∈ U := by rw [← m1]; exact List.mem_map_of_mem hs
    rw [hUe] at this
    rcases hU _ this with h | h <;> (rw [nb, blankB, decide_eq_false (by omega)]; rfl)
  have htw : V.takeWhile nb = V ∧ V.dropWhile nb = [] := by
    have h1 : V.takeWhile nb = V := takeWhile_all nb V hall
    refine ⟨h1, ?_⟩
    have := List.takeWhile_append_dropWhile (p := nb) (l := V)
    rw [h1] at this
    simpa using this
  have hyp : Hy.hasHyphen V = true := by
    have h45 := toldU_hyphen cut w 0 (by simpa using hsome)
    rw [← hUe, ← m1] at h45
    obtain ⟨s, hs1, hs2⟩ := List.mem_map.1 h45
    rw [Hy.hasHyphen, List.any_eq_true]
    exact ⟨s, hs1, by simpa using hs2⟩
  have hone : oneP V = (w, valsFrom cut 0 w, true) := by
    rw [oneP, hyp, m1, hUe, show ([0] : List Int) = [] ++ [0] from rfl, one_told cut V.length w 0 0 [] [] hw rfl rfl]
    simp only [List.nil_append, List.length_nil, Prod.mk.injEq, true_and, Bool.and_eq_true, decide_eq_true_eq]
    omega
  have hVne : V ≠ [] := by
    intro h
    rw [h] at m2
    have : U = [] := List.eq_nil_of_length_eq_zero m2.symm
    rw [hUe] at this
    obtain ⟨c, u, rfl⟩ := List.exists_cons_of_length_pos (by omega : 0 < w.length)
    exact toldU_ne cut 0 c u this
  have hlen : (signs s2).length = (signs t).length + 1 + V.length := by rw [hsg, List.length_append, List.length_cons]; omega
  have hfin : parseOf s2 = if (Hy.patsOf t).length + (Hy.toldOf t).length ≥ 256 then ([], [], 24, ((PA.bytesOf t).length + 1 : Int)) else if Hy.hasKey (Hy.toldOf t) w = true then ([], [], 23, ((PA.bytesOf t).length + 1 : Int)) else (Hy.patsOf t, Hy.toldOf t ++ [⟨w, valsFrom cut 0 w⟩], 0, 0) := by
    rw [ep2, hlen, hsg, happ]
    obtain ⟨s, v, hsv⟩ : ∃ s v, V = s :: v := by
      cases V with
      | nil => exact absurd rfl hVne
      | cons s v => exact ⟨s, v, rfl⟩
    have hsf : s.f1 = ((PA.bytesOf t).length + 1 : Int) := by
      cases U with
      | nil => rw [hV] at hsv; cases hsv
      | cons c u => rw [hV, asciiFrom] at hsv; injection hsv with e _; rw [← e]
    have hns : ¬ blankB s.f0 = true := by
      have := hall s (by rw [hsv]; exact List.mem_cons_self ..)
      rw [nb] at this
      simpa using this
    have hVl : V.length = v.length + 1 := by rw [hsv]; rfl
    rw [hVl]
    conv => lhs; rw [hsv]
    rw [pparse, if_neg hns, ← hsv, htw.1, htw.2, hsf]
    dsimp only
    rw [hone]
    dsimp only
    by_cases g1 : (Hy.patsOf t).length + (Hy.toldOf t).length ≥ 256
    · rw [if_pos g1, if_pos g1]
    · rw [if_neg g1, if_neg g1, if_pos rfl, if_pos hyp]
      by_cases g2 : Hy.hasKey (Hy.toldOf t) w = true
      · rw [if_pos g2, if_pos g2]
      · rw [if_neg g2, if_neg g2]
        cases v.length <;> rfl
  unfold Hy.codeOf Hy.patsOf Hy.toldOf
  rw [hfin]
  by_cases g1 : (Hy.patsOf t).length + (Hy.toldOf t).length ≥ 256
  · rw [if_pos g1]; exact .inl (.inr rfl)
  · rw [if_neg g1]
    by_cases g2 : Hy.hasKey (Hy.toldOf t) w = true
    · rw [if_pos g2]; exact .inl (.inl rfl)
    · rw [if_neg g2]; exact .inr ⟨rfl, rfl, rfl, by simpa using g2⟩
end Go.Proofs.Ytoefjhdcipgacaa.Dec
end
section
namespace Go.Proofs.Ytoefjhdcipgacaa.Hy
open Go.RowKit Go.Proofs.YtoefjhdcipgacaaW.PrintWords Go.Proofs.YtoefjhdcipgacaaW.PrintLast Go.Proofs.YtoefjhdcipgacaaW.PrintMore
open Go.Proofs.Ytoefjhdcipgacaa.PA Go.Proofs.Ytoefjhdcipgacaa.Dec
attribute [local go_sem] max2_int min2_int max_two min_two
set_option linter.unusedSimpArgs false
set_option linter.unusedVariables false
def cutB (cuts : Int) (i : Nat) : Bool := Go.bits .and .u16 (cuts / 2 ^ (i % 16)) 1 == 1
def anyCut (cuts : Int) (j : Nat) : Bool := (List.range j).any fun i => decide (0 < i) && cutB cuts i
theorem toldU_append (cut : Nat → Bool) (a b : List Int) : ∀ i, toldU cut i (a ++ b) = toldU cut i a ++ toldU cut (i + a.length) b := by
  induction a with
  | nil => intro i; rfl
  | cons c t ih =>
    intro i
    rw [List.cons_append, toldU, toldU, ih (i + 1), List.length_cons, show i + 1 + t.length = i + (t.length + 1) by omega]
    split <;> rfl
theorem bytes_append (a b : ByteArray) : PA.bytesOf (a ++ b) = PA.bytesOf a ++ PA.bytesOf b := by
  unfold PA.bytesOf
  rw [ByteArray.data_append, Array.toList_append, List.map_append]
theorem anyCut_succ (cuts : Int) (j : Nat) : anyCut cuts (j + 1) = (anyCut cuts j || (decide (0 < j) && cutB cuts j)) := by
  unfold anyCut
  rw [List.range_succ, List.any_append, List.any_cons, List.any_nil, Bool.or_false]
theorem told_step (cuts : Int) (W : List Int) (j : Nat) (hj : j < W.length) (cb : Bool) (hcb : (decide (0 < j) && cutB cuts j) = cb) : toldU (cutB cuts) 0 (W.take (j + 1)) = toldU (cutB cuts) 0 (W.take j) ++ (if cb = true then [45, rd W (j : Int)] else [rd W (j : Int)]) := by
  have hr : rd W (j : Int) = W[j] := by rw [rd, Int.toNat_natCast, List.getD_eq_getElem?_getD, List.getElem?_eq_getElem hj, Option.getD_some]
  rw [List.take_succ_eq_append_getElem hj, toldU_append, hr, List.length_take, Nat.min_eq_left (by omega), Nat.zero_add, toldU, ← hcb]
  by_cases h : 0 < j ∧ cutB cuts j = true
  · rw [if_pos h, if_pos (by rw [decide_eq_true h.1, h.2]; rfl)]; rfl
  · rw [if_neg h, if_neg (by simpa using h)]; rfl
theorem anyCut_some {cuts : Int} {n : Nat} (h : anyCut cuts n = true) : ∃ j, j < n ∧ 0 < j ∧ cutB cuts j = true := by
  unfold anyCut at h
  rw [List.any_eq_true] at h
  obtain ⟨j, h1, h2⟩ := h
  rw [Bool.and_eq_true, decide_eq_true_eq] at h2
  exact ⟨j, List.mem_range.1 h1, h2⟩
theorem same_self (l : List Bool) (hl : l.length ≤ 100000) (m : Nat) : ∀ (i k : Nat), l.length - i ≤ m → i ≤ l.length → m + 2 ≤ k → stanzaref07_SameBools.l0 k l l (i : Int) = some true := by
  induction m with
  | zero =>
    intro i k hm hi hk
    obtain ⟨k, rfl⟩ : ∃ k', k = k' + 1 := ⟨k - 1, by omega⟩
    rw [stanzaref07_SameBools.l0.eq_2, if_neg (by omega)]
  | succ m ih =>
    intro i k hm hi hk
    obtain ⟨k, rfl⟩ : ∃ k', k = k' + 1 := ⟨k - 1, by omega⟩
    rw [stanzaref07_SameBools.l0.eq_2]
    by_cases h : (i : Int) < (l.length : Int)
    · rw [if_pos h, if_pos (by omega), if_pos h, if_neg (by simp), w64 _ ⟨by omega, by omega⟩, show (i : Int) + 1 = ((i + 1 : Nat) : Int) by omega]
      exact ih (i + 1) k (by omega) (by omega) (by omega)
    · rw [if_neg h]
theorem same_f (l : List Bool) (hl : l.length ≤ 100000) : stanzaref07_SameBools.f 100002 l l = some true := by
  unfold stanzaref07_SameBools.f
  rw [if_pos rfl]
  exact same_self l hl l.length 0 100002 (by omega) (Nat.zero_le _) (by omega)
theorem vals_told {P Ws : List S39} {W V : List Int} (h : hasKey Ws W = false) : wordVals P (Ws ++ [⟨W, V⟩]) W = V := by
  have hn : Ws.find? (fun p => decide (p.f0 = W)) = none := by
    rw [List.find?_eq_none]
    rw [hasKey, List.any_eq_false] at h
    exact h
  rw [wordVals, List.find?_append, hn, Option.none_or, List.find?_cons_of_pos (by simp)]
theorem vals_other {P Ws : List S39} {W V E : List Int} (h : W ≠ E) : wordVals P (Ws ++ [⟨W, V⟩]) E = wordVals P Ws E := by
  rw [wordVals, wordVals, List.find?_append, List.find?_cons_of_neg (by simpa using h), List.find?_nil, Option.or_none]
theorem pt_told (cut : Nat → Bool) (W : List Int) (x y : Int) (hx : 1 ≤ x) (hy : 1 ≤ y) (j : Nat) (hj : j ≤ W.length) : ptAt (valsFrom cut 0 W) W.length x y j = (decide (0 < j) && (decide (j < W.length) && (cut j && (decide (x ≤ (j : Int)) && decide (y ≤ (W.length : Int) - (j : Int)))))) := by
  unfold ptAt
  rw [valsFrom_get cut W 0 j hj, Nat.zero_add, Bool.eq_iff_iff]
  simp only [Bool.and_eq_true, decide_eq_true_eq]
  constructor
  · rintro ⟨h1, h2, h3⟩
    by_cases h : j < W.length ∧ 0 < j ∧ cut j = true
    · exact ⟨h.2.1, h.1, h.2.2, h1, by omega⟩
    · rw [if_neg h] at h3; exact absurd h3 (by decide)
  · rintro ⟨h1, h2, h3, h4, h5⟩
    rw [if_pos ⟨h2, h1, h3⟩]
    exact ⟨h4, by omega, by decide⟩
set_option maxHeartbeats 8000000 in
set_option maxRecDepth 100000 in
theorem told_walk (s : ByteArray) (ws : List Int) (A : Option Addr) (c : Nat) (os : List Int) (A2 : Option Addr) (c2 : Nat) (cuts left right : Int) (w : World) (hs : s.size ≤ 140737488351232) (hw : Kd.C (Kd.int .i32) w A ws.length ws) (hwc : ws.length ≤ c) (h32 : ∀ r ∈ ws, Tr.In32 r)
    (ho : Kd.C (Kd.int .i32) w A2 os.length os) (hoc : os.length ≤ c2) (ho32 : ∀ r ∈ os, Tr.In32 r) (hcuts : 0 ≤ cuts ∧ cuts ≤ 65535) (hl : 0 ≤ left ∧ left ≤ 255) (hr : 0 ≤ right ∧ right ≤ 255) :
    Calls Try.prog 14 #[.string s, .slice A ws.length c, .slice A2 os.length c2, .int .u16 cuts, .int .u8 left, .int .u8 right] w fun e w' => e = .returned (.bool true) ∧ Below w.heap.size w w' := by
  have HC_ws := Aside0.mk hw
  have HL_ws := Aside0.mk hwc
  have HC_os := Aside0.mk ho
  have HL_os := Aside0.mk hoc
  have HW32 := Aside0.mk (fewL_word true ws h32)
  have HO32 := Aside0.mk (fewL_word true os ho32)
  clear hw hwc h32 ho hoc ho32
  obtain ⟨x, hx⟩ : ∃ x, x = 1 + left % 5 := ⟨_, rfl⟩
  obtain ⟨y, hy⟩ : ∃ y, y = 1 + right % 5 := ⟨_, rfl⟩
  have bx : 1 ≤ x ∧ x ≤ 24 := by omega
  have by_ : 1 ≤ y ∧ y ≤ 24 := by omega
  have HX := Aside0.mk hx
  have HY := Aside0.mk hy
  clear hx hy
  go_enter Try.func14, Try.ntmps14
  go_upto_region 4 with (first
    | ((with_reducible refine gate_callee (f := 24) rfl ?_); (refine goesL_ (some 26) rfl rfl Try.func24 (by kernel_rfl) rfl #[] rfl (by (try simp only [List.map_toArray, List.map_cons, List.map_nil]); first | done | rfl) ?_; refine (awake09_calls _).mono ?_; rintro e wa ⟨rfl, hb⟩; refine ⟨_, rfl, ?_⟩; replace HC_ws := Aside0.mk (Kd.C_below HC_ws.out hb); replace HC_os := Aside0.mk (Kd.C_below HC_os.out hb); have HB := Aside0.mk hb; clear hb))
    | ((with_reducible refine gate_callee (f := 32) rfl ?_); (refine goesL_ (some 29) rfl rfl Try.func32 (by kernel_rfl) rfl #[.slice A ws.length c, .bool true] rfl (by (try simp only [List.map_toArray, List.map_cons, List.map_nil]); first | done | rfl) ?_; refine (stanzalaw09_few.calls 100 A c ws true (fewL true ws) _ HC_ws.out HL_ws.out (few_eq true ws)).mono ?_; rintro e w2 ⟨v, rfl, hr, hb⟩; refine ⟨_, rfl, ?_⟩; generalize hnm : fewL true ws = D at hr; have HE_D := Aside0.mk hnm; obtain ⟨AD, cD, hv_, hl_, hc_⟩ := Kd.R_reads hr; subst hv_; have HL_D := Aside0.mk hl_; have HC_D := Aside0.mk hc_; replace HB := Aside0.mk (below_step HB.out hb); replace HC_os := Aside0.mk (Kd.C_below HC_os.out hb); clear hb hr hl_ hc_ hnm))
    | ((with_reducible refine gate_callee (f := 32) rfl ?_); (refine goesL_ (some 31) rfl rfl Try.func32 (by kernel_rfl) rfl #[.slice A2 os.length c2, .bool true] rfl (by (try simp only [List.map_toArray, List.map_cons, List.map_nil]); first | done | rfl) ?_; refine (stanzalaw09_few.calls 100 A2 c2 os true (fewL true os) _ HC_os.out HL_os.out (few_eq true os)).mono ?_; rintro e w3 ⟨v, rfl, hr, hb⟩; refine ⟨_, rfl, ?_⟩; generalize hnm : fewL true os = E at hr; have HE_E := Aside0.mk hnm; obtain ⟨AE, cE, hv_, hl_, hc_⟩ := Kd.R_reads hr; subst hv_; have HL_E := Aside0.mk hl_; have HC_E := Aside0.mk hc_; replace HB := Aside0.mk (below_step HB.out hb); replace HC_D := Aside0.mk (Kd.C_below HC_D.out hb); clear hb hr hl_ hc_ hnm)))
  have HWD_D : Aside0 (Tr.Word D) := ⟨by rw [← HE_D.out]; exact HW32.out⟩
  have HWD_E : Aside0 (Tr.Word E) := ⟨by rw [← HE_E.out]; exact HO32.out⟩
  have HDL : Aside0 (D.length ≤ 80) := ⟨by rw [← HE_D.out]; exact fewL_len true ws⟩
  have HD4 : Aside0 (∀ r ∈ D, 97 ≤ r ∧ r ≤ 100) := ⟨by
    rw [← HE_D.out]
    intro r hr
    obtain ⟨q, _, rfl⟩ := List.mem_map.1 hr
    exact letter4_in q⟩
  obtain ⟨W, hWe⟩ : ∃ W, W = D.take 20 := ⟨_, rfl⟩
  have HWe := Aside0.mk hWe
  have HWn : Aside0 ((W.length : Int) = min (D.length : Int) 20) := ⟨by rw [hWe, List.length_take]; omega⟩
  have HW20 : Aside0 (W.length ≤ 20 ∧ W.length ≤ D.length) := ⟨by rw [hWe, List.length_take]; omega⟩
  have HC_W := Aside0.mk (show Kd.C (Kd.int .i32) w3 AD W.length W by rw [hWe]; have h := Kd.C_take HC_D.out (m := min 20 D.length) (Nat.min_le_right _ _); rw [← List.take_eq_take_min] at h; exact h)
  have HL_W : Aside0 (W.length ≤ cD) := ⟨by have := HL_D.out; have := HW20.out; omega⟩
  have HWD_W : Aside0 (Tr.Word W) := ⟨by rw [hWe]; exact ⟨by have := HWD_D.out.1; rw [List.length_take]; omega, fun r hr => HWD_D.out.2 r (List.mem_of_mem_take hr)⟩⟩
  have HW4 : Aside0 (∀ r ∈ W, 97 ≤ r ∧ r ≤ 100) := ⟨by rw [hWe]; exact fun r hr => HD4.out r (List.mem_of_mem_take hr)⟩
  clear hWe
  go_cut [13] (fun v13 wc => wc = w3 ∧ v13 = .int .i64 (W.length : Int))
  case first =>
    go_wp2_with fail
    all_goals go_meet
    all_goals refine ⟨rfl, ?_⟩
    all_goals have hwn_ := HWn.out
    all_goals congr 1
    all_goals omega
  case rest =>
    obtain ⟨rfl, rfl⟩ := hcut
    have b20 : (W.length : Int) ≤ 20 := by have := HW20.out; omega
    have bWc : (W.length : Int) ≤ (cD : Int) := by have := HL_W.out; omega
    have bW0 : (0 : Int) ≤ (W.length : Int) := by omega
    go_upto_region 6 with fail
    go_cut [14, 15] (fun v14 v15 wc2 => wc2 = wc ∧ v14 = .int .i64 x ∧ v15 = .int .i64 y)
    case first =>
      go_wp2_with fail
      go_meet
      case rel => exact ⟨rfl, by rw [HX.out], by rw [HY.out]⟩
    case rest =>
      obtain ⟨hwe, rfl, rfl⟩ := hcut
      subst hwe
      clear HX HY HC_ws HC_os HW32 HO32 HWn
      by_cases hc : codeOf s = 0
      · have HCO := Aside0.mk hc
        clear hc
        go_upto_region 7 with fail
        go_cut [16, 17] (fun v1 v2 wc => ∃ b La Lc bt base Wa Wc g2, v1 = .pointer (some ⟨b, 0, none⟩) ∧ v2 = .pointer (some ⟨g2, 0, none⟩) ∧ Aside0 (HyphAt wc b lowL (Tr.make ((patsOf s).map Tr.pq)) (toldOf s) x y La Lc bt base Wa Wc) ∧ Aside0 (wc.heap[g2]? = some (.cells #[.int .i64 0, .int .i64 0] 46 (0, 0))) ∧ Aside0 (Kd.C (Kd.int .i32) wc AD W.length W) ∧ Aside0 (Kd.C (Kd.int .i32) wc AE E.length E) ∧ Aside0 (Below w.heap.size w wc))
        case first =>
          go_wp2_with (first
            | ((with_reducible refine gate_callee (f := 36) rfl ?_); (refine goesL_ (some 48) rfl rfl Try.func36 (by kernel_rfl) rfl #[] rfl (by (try simp only [List.map_toArray, List.map_cons, List.map_nil]); first | done | rfl) ?_; refine (stanzalaw09_low.calls lowL _ rfl).mono ?_; rintro e wa ⟨v, rfl, hr, hb⟩; refine ⟨_, rfl, ?_⟩; obtain ⟨Al, cl, hv_, hl_, hc_⟩ := Kd.R_reads hr; subst hv_; have HLl := Aside0.mk hl_; have HLc := Aside0.mk hc_; replace HB := Aside0.mk (below_step HB.out hb); replace HC_W := Aside0.mk (Kd.C_below HC_W.out hb); replace HC_E := Aside0.mk (Kd.C_below HC_E.out hb); clear hb hr hl_ hc_))
            | ((with_reducible refine gate_callee (f := 26) rfl ?_); (refine goesL_ (some 51) rfl rfl Try.func26 (by kernel_rfl) rfl #[.string s, .slice Al lowL.length cl, .int .i64 x, .int .i64 y] rfl (by (try simp only [List.map_toArray, List.map_cons, List.map_nil]); first | done | rfl) ?_; refine (newC s Al cl lowL x y _ HLc.out HLl.out (by decide) low_check' bx by_ HCO.out).mono ?_; rintro e wb ⟨b, La, Lc, bt, base, Wa, Wc, rfl, hH, hb⟩; refine ⟨_, rfl, ?_⟩; have HH := Aside0.mk hH; replace HB := Aside0.mk (below_step HB.out hb); replace HC_W := Aside0.mk (Kd.C_below HC_W.out hb); replace HC_E := Aside0.mk (Kd.C_below HC_E.out hb); clear hb hH))
            | ((with_reducible refine gate_dst (N := 17) rfl ?_); refine box_event ?hg (N := 17) ?hd (cs := #[.int .i64 0, .int .i64 0]) (t := 46) ?hr ?_; (case hd => rfl); (case hg => rfl); (case hr => first | (go_simp; done) | (go_simp; rfl)); intro gx hg wc1 hbox hb; have GE := Aside0.mk (by rw [hg]; exact below_size HB.out : w.heap.size ≤ gx); have GH := Aside0.mk (Nat.le_of_eq hg.symm : wb.heap.size ≤ gx); have BKx := Aside0.mk hbox; have HBb := Aside0.mk hb; replace HB := Aside0.mk (below_step HB.out hb); have hcz0 : wc1.cell? ⟨gx, 0, none⟩ = some (.int .i64 0) := (blk_cell hbox 0).trans rfl; have hcz1 : wc1.cell? ⟨gx, 1, none⟩ = some (.int .i64 0) := (blk_cell hbox 1).trans rfl; have hfz0 := blk_frozen hbox 0; have hfz1 := blk_frozen hbox 1; clear hb hbox hg))
          go_meet
          case rel =>
            refine ⟨b, La, Lc, bt, base, Wa, Wc, gx, rfl, rfl, ⟨HH.out.below (below_set (below_set HBb.out GH.out) GH.out)⟩, ⟨?_⟩, ⟨Kd.C_below HC_W.out (below_set (below_set HBb.out GH.out) GH.out)⟩, ⟨Kd.C_below HC_E.out (below_set (below_set HBb.out GH.out) GH.out)⟩, ⟨below_set (below_set HB.out GE.out) GE.out⟩⟩
            exact blk_put (cs := #[.int .i64 0, .int .i64 0]) (blk_put (cs := #[.int .i64 0, .int .i64 0]) BKx.out 0 _ rfl) 1 _ rfl
        case rest =>
          obtain ⟨b1, La1, Lc1, bt1, base1, Wa1, Wc1, g2, rfl, rfl, HH1, BK2, HC_W', HC_E', HB'⟩ := hcut
          clear HB HC_W HC_E HC_D
          have HB := HB'
          have HC_W := HC_W'
          have HC_E := HC_E'
          clear HB' HC_W' HC_E'
          rename World => wz
          have q2 : wz.cell? ⟨g2, 0, none⟩ = some (.int .i64 0) := (blk_cell BK2.out 0).trans rfl
          clear BK2
          by_cases hn2 : (W.length : Int) < 2
          · have hd2 : decide ((W.length : Int) < 2) = true := decide_eq_true hn2
            go_wp2_with fail
            go_ret
            exact ⟨rfl, HB.out⟩
          by_cases hsz : (3000 : Int) < (s.size : Int)
          · have hd3 : decide ((3000 : Int) < (s.size : Int)) = true := decide_eq_true hsz
            have hsz2 : 3000 < s.size := by omega
            go_wp2_with fail
            go_ret
            exact ⟨rfl, HB.out⟩
          by_cases hse : W = E
          · have HSE : Aside0 (decide (W = E) = true) := ⟨decide_eq_true hse⟩
            clear hse
            go_wp2_with ((with_reducible refine gate_callee (f := 38) rfl ?_); (refine gate_guard (by rfl) ?_; dsimp only); (refine goesL_ (some 69) rfl rfl Try.func38 (by kernel_rfl) rfl #[.slice AD W.length cD, .slice AE E.length cE] rfl (by (try simp only [List.map_toArray, List.map_cons, List.map_nil]); first | done | rfl) ?_; refine (Lf.same_calls AD cD W AE cE E _ HC_W.out HL_W.out HC_E.out HL_E.out).mono ?_; rintro e w8 ⟨rfl, nd, hw⟩; refine ⟨_, rfl, ?_⟩; rw [HSE.out]; have hb : Below wz.heap.size wz w8 := (by rw [hw]; exact pw_below_drewN (Below.refl _ _) _); replace HB := Aside0.mk (below_step HB.out hb); replace HC_W := Aside0.mk (Kd.C_below HC_W.out hb); replace HC_E := Aside0.mk (Kd.C_below HC_E.out hb); replace HH1 := Aside0.mk (HH1.out.below hb); clear hb hw))
            go_ret
            exact ⟨rfl, HB.out⟩
          · have HSE : Aside0 (decide (W = E) = false) := ⟨decide_eq_false hse⟩
            have HNE := Aside0.mk hse
            clear hse
            go_upto_region 10 with ((with_reducible refine gate_callee (f := 38) rfl ?_); (refine gate_guard (by rfl) ?_; dsimp only); (refine goesL_ (some 69) rfl rfl Try.func38 (by kernel_rfl) rfl #[.slice AD W.length cD, .slice AE E.length cE] rfl (by (try simp only [List.map_toArray, List.map_cons, List.map_nil]); first | done | rfl) ?_; refine (Lf.same_calls AD cD W AE cE E _ HC_W.out HL_W.out HC_E.out HL_E.out).mono ?_; rintro e w8 ⟨rfl, nd, hw⟩; refine ⟨_, rfl, ?_⟩; rw [HSE.out]; have hb : Below wz.heap.size wz w8 := (by rw [hw]; exact pw_below_drewN (Below.refl _ _) _); replace HB := Aside0.mk (below_step HB.out hb); replace HC_W := Aside0.mk (Kd.C_below HC_W.out hb); replace HC_E := Aside0.mk (Kd.C_below HC_E.out hb); replace HH1 := Aside0.mk (HH1.out.below hb); clear hb hw))
            clear q2 HSE
            have hw20 : W.length ≤ 20 := HW20.out.1
            go_wp2_with fail
            go_loopg [18, 19, 73] W.length (fun g v18 v19 v73 w' => ∃ (j : Nat) (st : ByteArray), v18 = .string st ∧ v19 = .bool (anyCut cuts j) ∧ v73 = .int .i64 j ∧ w' = w8 ∧ Aside0 (g + j = W.length) ∧ Aside0 (PA.bytesOf st = toldU (cutB cuts) 0 (W.take j)))
            case atStart => exact ⟨0, _, rfl, rfl, rfl, rfl, ⟨rfl⟩, ⟨rfl⟩⟩
            case round =>
              obtain ⟨j, st, rfl, rfl, rfl, rfl, HG, HST⟩ := hrel
              by_cases hj : j < W.length
              · have p1 : (0 : Int) ≤ (j : Int) := by omega
                have q1 : (j : Int) < (W.length : Int) := by omega
                obtain ⟨ad, e1, hxc⟩ := Kd.at_int HC_W.out (j : Int) p1 q1
                subst e1
                rw [Int.toNat_natCast] at hxc
                have bj : (j : Int) ≤ 20 := by omega
                obtain ⟨cc, hcc⟩ : ∃ cc, cc = rd W (j : Int) := ⟨_, rfl⟩
                rw [← hcc] at hxc
                have HCC := Aside0.mk hcc
                have hc4 : 97 ≤ cc ∧ cc ≤ 100 := by
                  rw [hcc]
                  refine HW4.out _ ?_
                  rw [rd, Int.toNat_natCast, List.getD_eq_getElem?_getD, List.getElem?_eq_getElem hj, Option.getD_some]
                  exact List.getElem_mem hj
                have hc5 : cc = 97 ∨ cc = 98 ∨ cc = 99 ∨ cc = 100 := by omega
                have HJ := Aside0.mk hj
                have hst : st.size ≤ 40 := by
                  rw [← PA.bytesOf_length, HST.out]
                  have h := (toldU_in (cutB cuts) (W.take j) 0 (fun r hr => HW4.out r (List.mem_of_mem_take hr))).2
                  rw [List.length_take] at h
                  omega
                have hst1 : (st ++ ({ data := #[45] } : ByteArray)).size ≤ 41 := by rw [ByteArray.size_append]; exact Nat.add_le_add_right hst 1
                have u97 : Utf8.encode 97 = { data := #[97] } := by kernel_rfl
                have u98 : Utf8.encode 98 = { data := #[98] } := by kernel_rfl
                have u99 : Utf8.encode 99 = { data := #[99] } := by kernel_rfl
                have u100 : Utf8.encode 100 = { data := #[100] } := by kernel_rfl
                clear hcc hc4
                go_upto_region 14 with fail
                go_cut [87] (fun v87 wc => v87 = .bool (decide (0 < j) && cutB cuts j) ∧ wc = wr)
                case first =>
                  by_cases h0 : 0 < j
                  · go_wp2_with fail
                    go_meet
                    exact ⟨by rw [decide_eq_true h0, Bool.true_and]; rfl, rfl⟩
                  · go_wp2_with fail
                    go_meet
                    exact ⟨by rw [decide_eq_false h0, Bool.false_and], rfl⟩
                case rest =>
                  obtain ⟨hv87, hwr⟩ := hcut
                  subst hwr
                  obtain ⟨cb, hcb⟩ : ∃ cb, (decide (0 < j) && cutB cuts j) = cb := ⟨_, rfl⟩
                  rw [hcb] at hv87
                  have HCB := Aside0.mk hcb
                  clear hcb
                  cases cb with
                  | true =>
                    subst hv87
                    rcases hc5 with rfl | rfl | rfl | rfl
                    all_goals
                      go_wp2_with fail
                      go_roundg (gk - 1)
                      case measure => have := HG.out; have := HJ.out; omega
                      case rel =>
                        refine ⟨j + 1, _, rfl, by rw [anyCut_succ, HCB.out, Bool.or_true], by go_num, rfl, ⟨by have := HG.out; have := HJ.out; omega⟩, ⟨?_⟩⟩
                        rw [told_step cuts W j HJ.out true HCB.out, if_pos rfl, ← HCC.out, bytes_append, bytes_append, HST.out, List.append_assoc]
                        rfl
                  | false =>
                    subst hv87
                    rcases hc5 with rfl | rfl | rfl | rfl
                    all_goals
                      go_wp2_with fail
                      go_roundg (gk - 1)
                      case measure => have := HG.out; have := HJ.out; omega
                      case rel =>
                        refine ⟨j + 1, _, rfl, by rw [anyCut_succ, HCB.out, Bool.or_false], by go_num, rfl, ⟨by have := HG.out; have := HJ.out; omega⟩, ⟨?_⟩⟩
                        rw [told_step cuts W j HJ.out false HCB.out, if_neg (by decide), ← HCC.out, bytes_append, HST.out]
                        rfl
              · have hje : j = W.length := by have := HG.out; omega
                have HSTW : Aside0 (PA.bytesOf st = toldU (cutB cuts) 0 W) := ⟨by have := HST.out; rw [hje, List.take_length] at this; exact this⟩
                obtain ⟨ac, hac⟩ : ∃ ac, anyCut cuts j = ac := ⟨_, rfl⟩
                have HAC : Aside0 (anyCut cuts W.length = ac) := ⟨by rw [← hje]; exact hac⟩
                rw [hac]
                clear hac HST HG hje
                cases ac with
                | false =>
                  go_wp2_with fail
                  go_ret
                  exact ⟨rfl, HB.out⟩
                | true =>
                  have hst : st.size ≤ 40 := by
                    rw [← PA.bytesOf_length, HSTW.out]
                    have h := (toldU_in (cutB cuts) W 0 HW4.out).2
                    omega
                  have hs1 : (s ++ ({ data := #[32] } : ByteArray)).size ≤ 3001 := by rw [ByteArray.size_append]; exact Nat.add_le_add_right (by omega) 1
                  have hs2 : (s ++ ({ data := #[32] } : ByteArray) ++ st).size ≤ 4096 := by rw [ByteArray.size_append]; omega
                  have HTP := Aside0.mk (told_parse (cutB cuts) s (s ++ { data := #[32] } ++ st) W HCO.out HW4.out (by omega) HW20.out.1 hs2 (by omega) (by rw [bytes_append, bytes_append, HSTW.out, List.append_assoc]; rfl) (anyCut_some HAC.out))
                  obtain ⟨s2, hs2e⟩ : ∃ s2, s ++ { data := #[32] } ++ st = s2 := ⟨_, rfl⟩
                  rw [hs2e] at HTP
                  clear hs2
                  go_upto_region 20 with fail
                  rcases HTP.out with h23 | ⟨hc2, hp2, ht2, hk2⟩
                  · obtain ⟨cd, hcd⟩ : ∃ cd, codeOf s2 = cd := ⟨_, rfl⟩
                    obtain ⟨ca, hca⟩ : ∃ ca, atOf s2 = ca := ⟨_, rfl⟩
                    have HCD := Aside0.mk hcd
                    have HAT := Aside0.mk hca
                    rw [hcd] at h23
                    have HC2 : Aside0 (codeOf s2 ≠ 0) := ⟨by rw [hcd]; rcases h23 with h | h <;> rw [h] <;> decide⟩
                    clear hcd hca HTP
                    go_cut [22, 23] (fun v1 v2 wc => ∃ g4, v1 = .pointer none ∧ v2 = .pointer (some ⟨g4, 0, none⟩) ∧ Aside0 (wc.heap[g4]? = some (.cells #[.int .i64 cd, .int .i64 ca] 46 (0, 0))) ∧ Aside0 (Below w.heap.size w wc))
                    case first =>
                      go_wp2_with (first
                        | ((with_reducible refine gate_callee (f := 36) rfl ?_); (refine goesL_ (some 102) rfl rfl Try.func36 (by kernel_rfl) rfl #[] rfl (by (try simp only [List.map_toArray, List.map_cons, List.map_nil]); first | done | rfl) ?_; refine (stanzalaw09_low.calls lowL _ rfl).mono ?_; rintro e wa ⟨v, rfl, hr, hb⟩; refine ⟨_, rfl, ?_⟩; obtain ⟨Al, cl, hv_, hl_, hc_⟩ := Kd.R_reads hr; subst hv_; have HLl := Aside0.mk hl_; have HLc := Aside0.mk hc_; replace HB := Aside0.mk (below_step HB.out hb); clear hb hr hl_ hc_))
                        | (go_at_call 26; refine (newB s2 Al cl lowL x y _ HLc.out HLl.out low_check' bx by_ HC2.out).mono ?_; rintro e wb ⟨rfl, hb⟩; rw [HCD.out, HAT.out]; replace HB := Aside0.mk (below_step HB.out hb); clear hb)
                        | ((with_reducible refine gate_dst (N := 23) rfl ?_); refine box_event ?hg (N := 23) ?hd (cs := #[.int .i64 0, .int .i64 0]) (t := 46) ?hr ?_; (case hd => rfl); (case hg => rfl); (case hr => first | (go_simp; done) | (go_simp; rfl)); intro gx hg wc1 hbox hb; have GE := Aside0.mk (by rw [hg]; exact below_size HB.out : w.heap.size ≤ gx); have GH := Aside0.mk (Nat.le_of_eq hg.symm : wb.heap.size ≤ gx); have BKx := Aside0.mk hbox; have HBb := Aside0.mk hb; replace HB := Aside0.mk (below_step HB.out hb); have hcz0 : wc1.cell? ⟨gx, 0, none⟩ = some (.int .i64 0) := (blk_cell hbox 0).trans rfl; have hcz1 : wc1.cell? ⟨gx, 1, none⟩ = some (.int .i64 0) := (blk_cell hbox 1).trans rfl; have hfz0 := blk_frozen hbox 0; have hfz1 := blk_frozen hbox 1; clear hb hbox hg))
                      go_meet
                      case rel => exact ⟨gx, rfl, rfl, ⟨blk_put (cs := #[.int .i64 cd, .int .i64 0]) (blk_put (cs := #[.int .i64 0, .int .i64 0]) BKx.out 0 _ rfl) 1 _ rfl⟩, ⟨below_set (below_set HB.out GE.out) GE.out⟩⟩
                    case rest =>
                      obtain ⟨g4, rfl, rfl, BK4, HB'⟩ := hcut
                      have q4 : wc.cell? ⟨g4, 0, none⟩ = some (.int .i64 cd) := (blk_cell BK4.out 0).trans rfl
                      rcases h23 with rfl | rfl
                      all_goals
                        go_wp2_with fail
                        go_ret
                        exact ⟨rfl, HB'.out⟩
                  · obtain ⟨V2, hV2⟩ : ∃ V2, V2 = valsFrom (cutB cuts) 0 W := ⟨_, rfl⟩
                    rw [← hV2] at ht2
                    obtain ⟨T2, hT2⟩ : ∃ T2, T2 = toldOf s ++ [⟨W, V2⟩] := ⟨_, rfl⟩
                    rw [← hT2] at ht2
                    have HV2 := Aside0.mk hV2
                    have HC2 := Aside0.mk hc2
                    have HP2 := Aside0.mk hp2
                    have HT2 := Aside0.mk ht2
                    have HVW : Aside0 (wordVals (patsOf s) T2 W = V2) := ⟨by rw [hT2]; exact vals_told hk2⟩
                    have HVE : Aside0 (wordVals (patsOf s) T2 E = wordVals (patsOf s) (toldOf s) E) := ⟨by rw [hT2]; exact vals_other HNE.out⟩
                    have HTL : Aside0 (∀ p ∈ T2, p.f1.length = p.f0.length + 1) := ⟨by rw [← ht2]; exact parseOf_told _⟩
                    clear hc2 hp2 ht2 hk2 hV2 hT2 HTP
                    go_cut [22, 23] (fun v1 v2 wc => ∃ b La Lc bt base Wa Wc g4, v1 = .pointer (some ⟨b, 0, none⟩) ∧ v2 = .pointer (some ⟨g4, 0, none⟩) ∧ Aside0 (HyphAt wc b lowL (Tr.make ((patsOf s).map Tr.pq)) T2 x y La Lc bt base Wa Wc) ∧ Aside0 (HyphAt wc b1 lowL (Tr.make ((patsOf s).map Tr.pq)) (toldOf s) x y La1 Lc1 bt1 base1 Wa1 Wc1) ∧ Aside0 (wc.heap[g4]? = some (.cells #[.int .i64 0, .int .i64 0] 46 (0, 0))) ∧ Aside0 (Kd.C (Kd.int .i32) wc AD W.length W) ∧ Aside0 (Kd.C (Kd.int .i32) wc AE E.length E) ∧ Aside0 (Below w.heap.size w wc))
                    case first =>
                      go_wp2_with (first
                        | ((with_reducible refine gate_callee (f := 36) rfl ?_); (refine goesL_ (some 102) rfl rfl Try.func36 (by kernel_rfl) rfl #[] rfl (by (try simp only [List.map_toArray, List.map_cons, List.map_nil]); first | done | rfl) ?_; refine (stanzalaw09_low.calls lowL _ rfl).mono ?_; rintro e wa ⟨v, rfl, hr, hb⟩; refine ⟨_, rfl, ?_⟩; obtain ⟨Al, cl, hv_, hl_, hc_⟩ := Kd.R_reads hr; subst hv_; have HLl := Aside0.mk hl_; have HLc := Aside0.mk hc_; replace HB := Aside0.mk (below_step HB.out hb); replace HC_W := Aside0.mk (Kd.C_below HC_W.out hb); replace HC_E := Aside0.mk (Kd.C_below HC_E.out hb); replace HH1 := Aside0.mk (HH1.out.below hb); clear hb hr hl_ hc_))
                        | (go_at_call 26; refine (newC s2 Al cl lowL x y _ HLc.out HLl.out (by decide) low_check' bx by_ HC2.out).mono ?_; rintro e wb ⟨b, La, Lc, bt, base, Wa, Wc, rfl, hH, hb⟩; have HH := Aside0.mk hH; replace HB := Aside0.mk (below_step HB.out hb); replace HC_W := Aside0.mk (Kd.C_below HC_W.out hb); replace HC_E := Aside0.mk (Kd.C_below HC_E.out hb); replace HH1 := Aside0.mk (HH1.out.below hb); clear hb hH)
                        | ((with_reducible refine gate_dst (N := 23) rfl ?_); refine box_event ?hg (N := 23) ?hd (cs := #[.int .i64 0, .int .i64 0]) (t := 46) ?hr ?_; (case hd => rfl); (case hg => rfl); (case hr => first | (go_simp; done) | (go_simp; rfl)); intro gx hg wc1 hbox hb; have GE := Aside0.mk (by rw [hg]; exact below_size HB.out : w.heap.size ≤ gx); have GH := Aside0.mk (Nat.le_of_eq hg.symm : wb.heap.size ≤ gx); have BKx := Aside0.mk hbox; have HBb := Aside0.mk hb; replace HB := Aside0.mk (below_step HB.out hb); have hcz0 : wc1.cell? ⟨gx, 0, none⟩ = some (.int .i64 0) := (blk_cell hbox 0).trans rfl; have hcz1 : wc1.cell? ⟨gx, 1, none⟩ = some (.int .i64 0) := (blk_cell hbox 1).trans rfl; have hfz0 := blk_frozen hbox 0; have hfz1 := blk_frozen hbox 1; clear hb hbox hg))
                      go_meet
                      case rel =>
                        have hH := HH.out
                        rw [HP2.out, HT2.out] at hH
                        refine ⟨b, La, Lc, bt, base, Wa, Wc, gx, rfl, rfl, ⟨hH.below (below_set (below_set HBb.out GH.out) GH.out)⟩, ⟨HH1.out.below (below_set (below_set HBb.out GH.out) GH.out)⟩, ⟨?_⟩, ⟨Kd.C_below HC_W.out (below_set (below_set HBb.out GH.out) GH.out)⟩, ⟨Kd.C_below HC_E.out (below_set (below_set HBb.out GH.out) GH.out)⟩, ⟨below_set (below_set HB.out GE.out) GE.out⟩⟩
                        exact blk_put (cs := #[.int .i64 0, .int .i64 0]) (blk_put (cs := #[.int .i64 0, .int .i64 0]) BKx.out 0 _ rfl) 1 _ rfl
                    case rest =>
                      obtain ⟨b2, La2, Lc2, bt2, base2, Wa2, Wc2, g4, rfl, rfl, HH2, HH1', BK4, HC_W', HC_E', HB'⟩ := hcut
                      clear HB HC_W HC_E HH1
                      have HB := HB'
                      have HC_W := HC_W'
                      have HC_E := HC_E'
                      have HH1 := HH1'
                      clear HB' HC_W' HC_E' HH1'
                      rename World => wq
                      have q4 : wq.cell? ⟨g4, 0, none⟩ = some (.int .i64 0) := (blk_cell BK4.out 0).trans rfl
                      go_upto_region 23 with fail
                      clear q4 BK4
                      obtain ⟨n1, hn1⟩ : ∃ n1 : Nat, W.length + 1 = n1 := ⟨_, rfl⟩
                      have HN := Aside0.mk hn1
                      clear hn1
                      obtain ⟨G, hG⟩ : ∃ G, G = pts (wordVals (patsOf s) (toldOf s) E) E.length x y := ⟨_, rfl⟩
                      have HG := Aside0.mk hG
                      have HGL : Aside0 (G.length ≤ 100000) := ⟨by rw [hG, pts_length]; have := HWD_E.out.1; omega⟩
                      clear hG
                      go_cut [24] (fun v24 wc => ∃ A5 c5, v24 = .slice A5 n1 c5 ∧ Aside0 (Kd.C Kd.bool wc A5 n1 (pts V2 W.length x y)) ∧ Aside0 (HyphAt wc b2 lowL (Tr.make ((patsOf s).map Tr.pq)) T2 x y La2 Lc2 bt2 base2 Wa2 Wc2) ∧ Aside0 (HyphAt wc b1 lowL (Tr.make ((patsOf s).map Tr.pq)) (toldOf s) x y La1 Lc1 bt1 base1 Wa1 Wc1) ∧ Aside0 (Kd.C (Kd.int .i32) wc AE E.length E) ∧ Aside0 (Below w.heap.size w wc))
                      case first =>
                        go_wp2_with ((with_reducible refine gate_callee (f := 33) rfl ?_); (refine goesL_ (some 121) rfl rfl Try.func33 (by kernel_rfl) rfl #[.pointer (some ⟨b2, 0, none⟩), .slice AD W.length cD] rfl (by (try simp only [List.map_toArray, List.map_cons, List.map_nil]); first | done | rfl) ?_; refine (word_calls b2 lowL (patsOf s) T2 x y La2 Lc2 bt2 base2 Wa2 Wc2 AD cD W _ HH2.out HC_W.out HL_W.out (parseOf_fit s) HWD_W.out bx by_ HTL.out).mono ?_; rintro e wa ⟨v, rfl, hr, hb⟩; refine ⟨_, rfl, ?_⟩; rw [HVW.out] at hr; obtain ⟨A5, c5, hv_, hl_, hc_⟩ := Kd.R_reads hr; rw [pts_length, HN.out] at hv_ hl_ hc_; subst hv_; have HP5 := Aside0.mk hc_; clear hl_ hc_; replace HB := Aside0.mk (below_step HB.out hb); replace HH1 := Aside0.mk (HH1.out.below hb); replace HH2 := Aside0.mk (HH2.out.below hb); replace HC_E := Aside0.mk (Kd.C_below HC_E.out hb); clear hb hr))
                        go_meet
                        case rel => exact ⟨A5, c5, rfl, HP5, HH2, HH1, HC_E, HB⟩
                      case rest =>
                        obtain ⟨A5, c5, rfl, HP5, HH2', HH1', HC_E', HB'⟩ := hcut
                        clear HB HC_E HH1 HH2 HC_W
                        have HB := HB'
                        have HC_E := HC_E'
                        have HH1 := HH1'
                        have HH2 := HH2'
                        clear HB' HC_E' HH1' HH2'
                        rename World => wB
                        have HBB := Aside0.mk (Below.refl wB.heap.size wB)
                        have hn0 : n1 ≤ 21 := by have := HN.out; have := HW20.out.1; omega
                        go_wp2_with fail
                        go_loopg [124] n1 (fun g v124 w' => ∃ j : Nat, v124 = .int .i64 j ∧ Aside0 (g + j = n1) ∧ Aside0 (Below wB.heap.size wB w'))
                        case atStart => exact ⟨0, rfl, ⟨rfl⟩, HBB⟩
                        case round =>
                          clear HBB
                          obtain ⟨j, rfl, HGj, HK⟩ := hrel
                          by_cases hj : j < n1
                          · have p1 : (0 : Int) ≤ (j : Int) := by omega
                            have q1 : (j : Int) < (n1 : Int) := by omega
                            obtain ⟨ad5, e5, x5⟩ := Kd.at_bool (Kd.C_below HP5.out HK.out) (j : Int) p1 q1
                            subst e5
                            rw [pts_rd V2 W.length x y j (by have := HN.out; omega), Int.toNat_natCast, HV2.out, pt_told (cutB cuts) W x y bx.1 by_.1 j (by have := HN.out; omega)] at x5
                            have bj : (j : Int) ≤ 21 := by omega
                            have HJ := Aside0.mk hj
                            go_upto_region 27 with fail
                            go_cut [158] (fun v158 wc => v158 = .bool false ∧ Aside0 (Below wB.heap.size wB wc))
                            case first =>
                              by_cases h0 : 0 < j
                              · by_cases h1 : j < W.length
                                · obtain ⟨cb, hcb⟩ : ∃ cb, cutB cuts j = cb := ⟨_, rfl⟩
                                  rw [hcb] at x5
                                  replace hcb : (Go.bits BinOp.and IntKind.u16 (cuts / 2 ^ (j % 16)) 1 == 1) = cb := hcb
                                  cases cb with
                                  | false =>
                                    rw [decide_eq_true h0, decide_eq_true h1] at x5
                                    replace x5 : wr.cell? (ad5.add j) = some (.bool false) := x5
                                    go_region
                                    all_goals go_wp2_with fail
                                    all_goals go_meet
                                    all_goals exact ⟨rfl, ⟨below_drew HK.out⟩⟩
                                  | true =>
                                    by_cases h3 : x ≤ (j : Int)
                                    · by_cases h4 : y ≤ (W.length : Int) - (j : Int)
                                      · rw [decide_eq_true h0, decide_eq_true h1, decide_eq_true h3, decide_eq_true h4] at x5
                                        replace x5 : wr.cell? (ad5.add j) = some (.bool true) := x5
                                        go_region
                                        all_goals go_wp2_with fail
                                        all_goals go_meet
                                        all_goals exact ⟨rfl, ⟨below_drew HK.out⟩⟩
                                      · rw [decide_eq_true h0, decide_eq_true h1, decide_eq_true h3, decide_eq_false h4] at x5
                                        replace x5 : wr.cell? (ad5.add j) = some (.bool false) := x5
                                        go_region
                                        all_goals go_wp2_with fail
                                        all_goals go_meet
                                        all_goals exact ⟨rfl, ⟨below_drew HK.out⟩⟩
                                    · rw [decide_eq_true h0, decide_eq_true h1, decide_eq_false h3] at x5
                                      replace x5 : wr.cell? (ad5.add j) = some (.bool false) := x5
                                      go_region
                                      all_goals go_wp2_with fail
                                      all_goals go_meet
                                      all_goals exact ⟨rfl, ⟨below_drew HK.out⟩⟩
                                · rw [decide_eq_true h0, decide_eq_false h1] at x5
                                  replace x5 : wr.cell? (ad5.add j) = some (.bool false) := x5
                                  go_region
                                  all_goals go_wp2_with fail
                                  all_goals go_meet
                                  all_goals exact ⟨rfl, ⟨below_drew HK.out⟩⟩
                              · rw [decide_eq_false h0] at x5
                                replace x5 : wr.cell? (ad5.add j) = some (.bool false) := x5
                                go_region
                                all_goals go_wp2_with fail
                                all_goals go_meet
                                all_goals exact ⟨rfl, ⟨below_drew HK.out⟩⟩
                            case rest =>
                              obtain ⟨rfl, HK2⟩ := hcut
                              go_wp2_with fail
                              go_roundg (gk - 1)
                              case measure => have := HGj.out; have := HJ.out; omega
                              case rel => exact ⟨j + 1, by go_num, ⟨by have := HGj.out; have := HJ.out; omega⟩, HK2⟩
                          · replace HH1 := Aside0.mk (HH1.out.below HK.out)
                            replace HH2 := Aside0.mk (HH2.out.below HK.out)
                            replace HC_E := Aside0.mk (Kd.C_below HC_E.out HK.out)
                            replace HB := Aside0.mk (below_step HB.out HK.out)
                            go_wp2_with (first
                              | ((with_reducible refine gate_callee (f := 33) rfl ?_); (refine goesL_ (some 162) rfl rfl Try.func33 (by kernel_rfl) rfl #[.pointer (some ⟨b2, 0, none⟩), .slice AE E.length cE] rfl (by (try simp only [List.map_toArray, List.map_cons, List.map_nil]); first | done | rfl) ?_; refine (word_calls b2 lowL (patsOf s) T2 x y La2 Lc2 bt2 base2 Wa2 Wc2 AE cE E _ HH2.out HC_E.out HL_E.out (parseOf_fit s) HWD_E.out bx by_ HTL.out).mono ?_; rintro e wa6 ⟨v, rfl, hr, hb⟩; refine ⟨_, rfl, ?_⟩; rw [HVE.out, ← HG.out] at hr; obtain ⟨A6, c6, hv_, hl_, hc_⟩ := Kd.R_reads hr; subst hv_; have HP6 := Aside0.mk hc_; have HL6 := Aside0.mk hl_; clear hl_ hc_; replace HB := Aside0.mk (below_step HB.out hb); replace HH1 := Aside0.mk (HH1.out.below hb); replace HC_E := Aside0.mk (Kd.C_below HC_E.out hb); clear hb hr))
                              | ((with_reducible refine gate_callee (f := 33) rfl ?_); (refine goesL_ (some 165) rfl rfl Try.func33 (by kernel_rfl) rfl #[.pointer (some ⟨b1, 0, none⟩), .slice AE E.length cE] rfl (by (try simp only [List.map_toArray, List.map_cons, List.map_nil]); first | done | rfl) ?_; refine (word_calls b1 lowL (patsOf s) (toldOf s) x y La1 Lc1 bt1 base1 Wa1 Wc1 AE cE E _ HH1.out HC_E.out HL_E.out (parseOf_fit s) HWD_E.out bx by_ (parseOf_told s)).mono ?_; rintro e wa7 ⟨v, rfl, hr, hb⟩; refine ⟨_, rfl, ?_⟩; rw [← HG.out] at hr; obtain ⟨A7, c7, hv_, hl_, hc_⟩ := Kd.R_reads hr; subst hv_; have HP7 := Aside0.mk hc_; have HL7 := Aside0.mk hl_; clear hl_ hc_; replace HB := Aside0.mk (below_step HB.out hb); replace HP6 := Aside0.mk (Kd.C_below HP6.out hb); clear hb hr))
                              | (go_at_call 29; refine (stanzaref07_SameBools.calls 100002 A6 c6 G A7 c7 G true _ HP6.out HL6.out HP7.out HL7.out (same_f G HGL.out)).mono ?_; rintro e wz9 ⟨rfl, nd, hw⟩; have hb : Below wa7.heap.size wa7 wz9 := (by rw [hw]; exact pw_below_drewN (Below.refl _ _) _); replace HB := Aside0.mk (below_step HB.out hb); clear hb hw))
                            go_ret
                            exact ⟨rfl, HB.out⟩
      · obtain ⟨cd, hcd⟩ : ∃ cd, codeOf s = cd := ⟨_, rfl⟩
        obtain ⟨ca, hca⟩ : ∃ ca, atOf s = ca := ⟨_, rfl⟩
        have HCO := Aside0.mk hc
        have HCD := Aside0.mk hcd
        have HAT := Aside0.mk hca
        have hne : cd ≠ 0 := by rw [← hcd]; exact hc
        clear hc hcd hca HC_D HC_W HC_E
        go_upto_region 7 with fail
        go_cut [16, 17] (fun v1 v2 wc => ∃ g2, v1 = .pointer none ∧ v2 = .pointer (some ⟨g2, 0, none⟩) ∧ Aside0 (wc.heap[g2]? = some (.cells #[.int .i64 cd, .int .i64 ca] 46 (0, 0))) ∧ Aside0 (Below w.heap.size w wc))
        case first =>
          go_wp2_with (first
            | ((with_reducible refine gate_callee (f := 36) rfl ?_); (refine goesL_ (some 48) rfl rfl Try.func36 (by kernel_rfl) rfl #[] rfl (by (try simp only [List.map_toArray, List.map_cons, List.map_nil]); first | done | rfl) ?_; refine (stanzalaw09_low.calls lowL _ rfl).mono ?_; rintro e wa ⟨v, rfl, hr, hb⟩; refine ⟨_, rfl, ?_⟩; obtain ⟨Al, cl, hv_, hl_, hc_⟩ := Kd.R_reads hr; subst hv_; have HLl := Aside0.mk hl_; have HLc := Aside0.mk hc_; replace HB := Aside0.mk (below_step HB.out hb); clear hb hr hl_ hc_))
            | ((with_reducible refine gate_callee (f := 26) rfl ?_); (refine goesL_ (some 51) rfl rfl Try.func26 (by kernel_rfl) rfl #[.string s, .slice Al lowL.length cl, .int .i64 x, .int .i64 y] rfl (by (try simp only [List.map_toArray, List.map_cons, List.map_nil]); first | done | rfl) ?_; refine (newB s Al cl lowL x y _ HLc.out HLl.out low_check' bx by_ HCO.out).mono ?_; rintro e wb ⟨rfl, hb⟩; refine ⟨_, rfl, ?_⟩; rw [HCD.out, HAT.out]; replace HB := Aside0.mk (below_step HB.out hb); clear hb))
            | ((with_reducible refine gate_dst (N := 17) rfl ?_); refine box_event ?hg (N := 17) ?hd (cs := #[.int .i64 0, .int .i64 0]) (t := 46) ?hr ?_; (case hd => rfl); (case hg => rfl); (case hr => first | (go_simp; done) | (go_simp; rfl)); intro gx hg wc1 hbox hb; have GE := Aside0.mk (by rw [hg]; exact below_size HB.out : w.heap.size ≤ gx); have GH := Aside0.mk (Nat.le_of_eq hg.symm : wb.heap.size ≤ gx); have BKx := Aside0.mk hbox; have HBb := Aside0.mk hb; replace HB := Aside0.mk (below_step HB.out hb); have hcz0 : wc1.cell? ⟨gx, 0, none⟩ = some (.int .i64 0) := (blk_cell hbox 0).trans rfl; have hcz1 : wc1.cell? ⟨gx, 1, none⟩ = some (.int .i64 0) := (blk_cell hbox 1).trans rfl; have hfz0 := blk_frozen hbox 0; have hfz1 := blk_frozen hbox 1; clear hb hbox hg))
          go_meet
          case rel => exact ⟨gx, rfl, rfl, ⟨blk_put (cs := #[.int .i64 cd, .int .i64 0]) (blk_put (cs := #[.int .i64 0, .int .i64 0]) BKx.out 0 _ rfl) 1 _ rfl⟩, ⟨below_set (below_set HB.out GE.out) GE.out⟩⟩
        case rest =>
          obtain ⟨g2, rfl, rfl, BK2, HB'⟩ := hcut
          rename World => wz
          have q2 : wz.cell? ⟨g2, 0, none⟩ = some (.int .i64 cd) := (blk_cell BK2.out 0).trans rfl
          go_wp2_with fail
          go_ret
          exact ⟨rfl, HB'.out⟩
end Go.Proofs.Ytoefjhdcipgacaa.Hy
end
