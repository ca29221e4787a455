/-
  Part 21 of what the law HyphLeast rests on: contracts of the functions that it calls, and plain laws of what they compute.
-/
import Derived.Deep.RegionWith
import Derived.Test.YtoefjhdcipgacaaHL6
import Derived.Test.YtoefjhdcipgacaaHL7
import Derived.Test.YtoefjhdcipgacaaHL16
import Derived.Test.YtoefjhdcipgacaaHL17
import Derived.Test.YtoefjhdcipgacaaHL18
import Derived.Test.YtoefjhdcipgacaaHL19
import Derived.Test.YtoefjhdcipgacaaHL20
section
namespace Go.Proofs.Ytoefjhdcipgacaa.Hy
open Go.RowKit Go.Proofs.YtoefjhdcipgacaaW.PrintWords Go.Proofs.YtoefjhdcipgacaaW.PrintLast Go.Proofs.YtoefjhdcipgacaaW.PrintMore
open Go.Proofs.Ytoefjhdcipgacaa.PA
attribute [local go_sem] max2_int min2_int max_two min_two
set_option maxHeartbeats 8000000 in
set_option maxRecDepth 100000 in
theorem new_bad3 (k : Nat) (s : ByteArray) (A : Option Addr) (c : Nat) (ls : List S63) (left right : Int) (P W : List S39) (code at_ : Int) (w : World) (hl : Kd.C k63 w A ls.length ls) (hlc : ls.length ≤ c) (hck : hyph_Check.f k ls = some true)
    (h1 : 1 ≤ left) (h2 : 1 ≤ right) (h3 : left ≤ 24) (h4 : right ≤ 24) (hpar : pats_Parse.f k s = some (P, W, code, at_)) (hne : code ≠ 0) :
    Calls Try.prog 26 #[.string s, .slice A ls.length c, .int .i64 left, .int .i64 right] w fun e w' => e = .returned (.tuple #[.pointer none, .agg #[.int .i64 code, .int .i64 at_]]) ∧ Below w.heap.size w w' := by
  have HL := Aside0.mk hl
  have HLc := Aside0.mk hlc
  have HK := Aside0.mk hck
  have HP := Aside0.mk hpar
  clear hl hlc hck hpar
  go_enter Try.func26, Try.ntmps26
  go_upto_region 5 with (first
    | ((with_reducible refine gate_dst (N := 9) rfl ?_); refine box_event ?hg (N := 9) ?hd (cs := #[.int .i64 0, .int .i64 0]) (t := 46) ?hr ?_; (case hd => rfl); (case hg => rfl); (case hr => first | (go_simp; done) | (go_simp; rfl)); intro g9 hg w1 hbox hb; have HB := Aside0.mk hb; have BK9 := Aside0.mk hbox; have GE9 := Aside0.mk (Nat.le_of_eq hg.symm : w.heap.size ≤ g9); clear hb hbox hg)
    | (go_at_call 34; refine (hyph_Check.calls k A c ls true _ (Kd.C_below HL.out HB.out) HLc.out HK.out).mono ?_; rintro e w2 ⟨rfl, hb⟩; replace BK9 := Aside0.mk (blk_below BK9.out hb); replace HB := Aside0.mk (below_step HB.out hb); clear hb))
  go_cut [10, 11] (fun v10 v11 wc => ∃ g11, v11 = .pointer (some ⟨g11, 0, none⟩) ∧ Aside0 (wc.heap[g11]? = some (.cells #[.int .i64 code, .int .i64 at_] 46 (0, 0))) ∧ Aside0 (wc.heap[g9]? = some (.cells #[.int .i64 0, .int .i64 0] 46 (0, 0))) ∧ Aside0 (Below w.heap.size w wc))
  case first =>
    go_wp2_with (first
    | (go_at_call 41; refine (pats_Parse.calls k s P W code at_ _ HP.out).mono ?_; rintro e w3 ⟨v0, v1, rfl, hs0, hs1, hb⟩; obtain ⟨Ap, cp, rfl⟩ := Kd.S_slice hs0; obtain ⟨Aw, cw, rfl⟩ := Kd.S_slice hs1; have HS0 := Aside0.mk (Kd.S_lower (Kd.S_mono (ok' := fun _ => True) hs0 (fun _ _ => trivial)) (below_size HB.out)); have HS1 := Aside0.mk (Kd.S_lower (Kd.S_mono (ok' := fun _ => True) hs1 (fun _ _ => trivial)) (below_size HB.out)); replace BK9 := Aside0.mk (blk_below BK9.out hb); replace HB := Aside0.mk (below_step HB.out hb); clear hb hs0 hs1)
    | ((with_reducible refine gate_dst (N := 10) rfl ?_); refine box_event ?hg (N := 10) ?hd (cs := #[.slice none 0 0, .slice none 0 0]) (t := 50) ?hr ?_; (case hd => rfl); (case hg => rfl); (case hr => first | (go_simp; done) | (go_simp; rfl)); intro g10 hg w4 hbox hb; replace HS0 := Aside0.mk (Kd.S_below HS0.out hb); replace HS1 := Aside0.mk (Kd.S_below HS1.out hb); replace BK9 := Aside0.mk (blk_below BK9.out hb); have BK10 := Aside0.mk hbox; have GE10 := Aside0.mk (by rw [hg]; exact below_size HB.out : w.heap.size ≤ g10); replace HB := Aside0.mk (below_step HB.out hb); clear hb hbox hg)
    | ((with_reducible refine gate_dst (N := 11) rfl ?_); refine box_event ?hg (N := 11) ?hd (cs := #[.int .i64 0, .int .i64 0]) (t := 46) ?hr ?_; (case hd => rfl); (case hg => rfl); (case hr => first | (go_simp; done) | (go_simp; rfl)); intro g11 hg w5 hbox hb; have NB := Aside0.mk (by rw [hg]; exact Nat.ne_of_lt (blk_lt BK9.out) : g9 ≠ g11); replace HS0 := Aside0.mk (Kd.S_below HS0.out hb); replace HS1 := Aside0.mk (Kd.S_below HS1.out hb); replace BK9 := Aside0.mk (blk_below BK9.out hb); replace BK10 := Aside0.mk (blk_below BK10.out hb); have BK11 := Aside0.mk hbox; have GE11 := Aside0.mk (by rw [hg]; exact below_size HB.out : w.heap.size ≤ g11); replace HB := Aside0.mk (below_step HB.out hb); have hcz0 : w5.cell? ⟨g10, 0, none⟩ = some (.slice none 0 0) := (blk_cell BK10.out 0).trans rfl; have hcz1 : w5.cell? ⟨g10, 1, none⟩ = some (.slice none 0 0) := (blk_cell BK10.out 1).trans rfl; have hfz0 := blk_frozen BK10.out 0; have hfz1 := blk_frozen BK10.out 1; have hdz0 : w5.cell? ⟨g11, 0, none⟩ = some (.int .i64 0) := (blk_cell BK11.out 0).trans rfl; have hdz1 : w5.cell? ⟨g11, 1, none⟩ = some (.int .i64 0) := (blk_cell BK11.out 1).trans rfl; have hez0 := blk_frozen BK11.out 0; have hez1 := blk_frozen BK11.out 1; have hnb := blk_ne BK10.out BK11.out (by decide); have hnc := Ne.symm hnb; clear hb hbox hg))
    go_meet
    case rel =>
      refine ⟨g11, rfl, ⟨?_⟩, ⟨?_⟩, ⟨?_⟩⟩
      · refine blk_put (cs := #[.int .i64 code, .int .i64 0]) (blk_put (cs := #[.int .i64 0, .int .i64 0]) (blk_far (blk_far BK11.out hnc _) hnc _) 0 _ rfl) 1 _ rfl
      · refine blk_far (blk_far (blk_far (blk_far BK9.out ?_ _) ?_ _) NB.out _) NB.out _ <;> exact Ne.symm (blk_ne BK10.out BK9.out (by decide))
      · exact below_set (below_set (below_set (below_set HB.out GE10.out) GE10.out) GE11.out) GE11.out
  case rest =>
    obtain ⟨g11, rfl, BK11, BK9', HB'⟩ := hcut
    clear HB BK9
    have HB := HB'
    have BK9 := BK9'
    clear HB' BK9'
    have hdz0 : wc.cell? ⟨g11, 0, none⟩ = some (.int .i64 code) := (blk_cell BK11.out 0).trans rfl
    have hdz1 : wc.cell? ⟨g11, 1, none⟩ = some (.int .i64 at_) := (blk_cell BK11.out 1).trans rfl
    have hcz0 : wc.cell? ⟨g9, 0, none⟩ = some (.int .i64 0) := (blk_cell BK9.out 0).trans rfl
    have hcz1 : wc.cell? ⟨g9, 1, none⟩ = some (.int .i64 0) := (blk_cell BK9.out 1).trans rfl
    have hfz0 := blk_frozen BK9.out 0
    have hfz1 := blk_frozen BK9.out 1
    go_upto_region 7 with fail
    go_region
    all_goals go_wp2_with fail
    refine bodyPost_ret (results_tc rfl _ _ g9 46 #[.int .i64 code, .int .i64 at_] (0, 0) _ rfl (blk_drew (blk_put (cs := #[.int .i64 code, .int .i64 0]) (blk_put (cs := #[.int .i64 0, .int .i64 0]) BK9.out 0 _ rfl) 1 _ rfl)) Try.underlying46 rfl (by kernel_rfl)) rfl ?_
    exact ⟨rfl, below_drew (below_set (below_set HB.out GE9.out) GE9.out)⟩
end Go.Proofs.Ytoefjhdcipgacaa.Hy
end
section
namespace Go.Proofs.Ytoefjhdcipgacaa.Hy
open Go.RowKit Go.Proofs.YtoefjhdcipgacaaW.PrintWords Go.Proofs.YtoefjhdcipgacaaW.PrintLast Go.Proofs.YtoefjhdcipgacaaW.PrintMore
open Go.Proofs.Ytoefjhdcipgacaa.PA
attribute [local go_sem] max2_int min2_int max_two min_two
theorem _root_.Go.Proofs.Ytoefjhdcipgacaa.Tr.TrieAt.set {w : World} {base bt g : Nat} {T : Tr.TM} (h : Tr.TrieAt w base bt T) (hg : g < base) (j : Nat) (u : Value) : Tr.TrieAt (w.setCell ⟨g, j, none⟩ u) base bt T := by
  obtain ⟨bn, cap, K, xs, ms, vs, hK, h⟩ := h
  exact ⟨bn, cap, K, xs, ms, vs, hK, h.move (fun k hk _ => Below.heap_setCell w ⟨g, j, none⟩ u k (by show k ≠ g; omega))⟩
set_option maxHeartbeats 8000000 in
set_option maxRecDepth 100000 in
theorem new_ok (k : Nat) (s : ByteArray) (A : Option Addr) (c : Nat) (ls : List S63) (left right : Int) (P W : List S39) (w : World) (hl : Kd.C k63 w A ls.length ls) (hlc : ls.length ≤ c) (h8 : ls.length ≤ 1000000) (hck : hyph_Check.f k ls = some true)
    (h1 : 1 ≤ left) (h2 : 1 ≤ right) (h3 : left ≤ 24) (h4 : right ≤ 24) (hpar : pats_Parse.f k s = some (P, W, 0, 0)) (hfit : Tr.Fit P) :
    Calls Try.prog 26 #[.string s, .slice A ls.length c, .int .i64 left, .int .i64 right] w fun e w' => ∃ b La Lc bt base Wa Wc, e = .returned (.tuple #[.pointer (some ⟨b, 0, none⟩), .agg #[.int .i64 0, .int .i64 0]]) ∧ HyphAt w' b ls (Tr.make (P.map Tr.pq)) W left right La Lc bt base Wa Wc ∧ Below w.heap.size w w' := by
  have HL := Aside0.mk hl
  have HLc := Aside0.mk hlc
  have HL8 := Aside0.mk h8
  have HK := Aside0.mk hck
  have HP := Aside0.mk hpar
  have HF := Aside0.mk hfit
  clear hl hlc h8 hck hpar hfit
  go_enter Try.func26, Try.ntmps26
  go_upto_region 5 with (first
    | ((with_reducible refine gate_dst (N := 9) rfl ?_); refine box_event ?hg (N := 9) ?hd (cs := #[.int .i64 0, .int .i64 0]) (t := 46) ?hr ?_; (case hd => rfl); (case hg => rfl); (case hr => first | (go_simp; done) | (go_simp; rfl)); intro g9 hg w1 hbox hb; have HB := Aside0.mk hb; have BK9 := Aside0.mk hbox; have GE9 := Aside0.mk (Nat.le_of_eq hg.symm : w.heap.size ≤ g9); clear hb hbox hg)
    | (go_at_call 34; refine (hyph_Check.calls k A c ls true _ (Kd.C_below HL.out HB.out) HLc.out HK.out).mono ?_; rintro e w2 ⟨rfl, hb⟩; replace BK9 := Aside0.mk (blk_below BK9.out hb); replace HB := Aside0.mk (below_step HB.out hb); clear hb))
  go_cut [10, 11] (fun v10 v11 wc => ∃ g10 g11 Ap cp Aw cw, v10 = .pointer (some ⟨g10, 0, none⟩) ∧ v11 = .pointer (some ⟨g11, 0, none⟩) ∧ Aside0 (wc.heap[g10]? = some (.cells #[.slice Ap P.length cp, .slice Aw W.length cw] 50 (0, 0))) ∧ Aside0 (wc.heap[g11]? = some (.cells #[.int .i64 0, .int .i64 0] 46 (0, 0))) ∧ Aside0 (wc.heap[g9]? = some (.cells #[.int .i64 0, .int .i64 0] 46 (0, 0))) ∧ Aside0 (Kd.S k39 39 wc w.heap.size (fun _ => True) (.slice Ap P.length cp) P) ∧ Aside0 (Kd.S k39 39 wc w.heap.size (fun _ => True) (.slice Aw W.length cw) W) ∧ Aside0 (Below w.heap.size w wc))
  case first =>
    go_wp2_with (first
    | (go_at_call 41; refine (pats_Parse.calls k s P W 0 0 _ HP.out).mono ?_; rintro e w3 ⟨v0, v1, rfl, hs0, hs1, hb⟩; obtain ⟨Ap, cp, rfl⟩ := Kd.S_slice hs0; obtain ⟨Aw, cw, rfl⟩ := Kd.S_slice hs1; have HS0 := Aside0.mk (Kd.S_lower (Kd.S_mono (ok' := fun _ => True) hs0 (fun _ _ => trivial)) (below_size HB.out)); have HS1 := Aside0.mk (Kd.S_lower (Kd.S_mono (ok' := fun _ => True) hs1 (fun _ _ => trivial)) (below_size HB.out)); replace BK9 := Aside0.mk (blk_below BK9.out hb); replace HB := Aside0.mk (below_step HB.out hb); clear hb hs0 hs1)
    | ((with_reducible refine gate_dst (N := 10) rfl ?_); refine box_event ?hg (N := 10) ?hd (cs := #[.slice none 0 0, .slice none 0 0]) (t := 50) ?hr ?_; (case hd => rfl); (case hg => rfl); (case hr => first | (go_simp; done) | (go_simp; rfl)); intro g10 hg w4 hbox hb; replace HS0 := Aside0.mk (Kd.S_below HS0.out hb); replace HS1 := Aside0.mk (Kd.S_below HS1.out hb); replace BK9 := Aside0.mk (blk_below BK9.out hb); have BK10 := Aside0.mk hbox; have GE10 := Aside0.mk (by rw [hg]; exact below_size HB.out : w.heap.size ≤ g10); replace HB := Aside0.mk (below_step HB.out hb); clear hb hbox hg)
    | ((with_reducible refine gate_dst (N := 11) rfl ?_); refine box_event ?hg (N := 11) ?hd (cs := #[.int .i64 0, .int .i64 0]) (t := 46) ?hr ?_; (case hd => rfl); (case hg => rfl); (case hr => first | (go_simp; done) | (go_simp; rfl)); intro g11 hg w5 hbox hb; have NB := Aside0.mk (by rw [hg]; exact Nat.ne_of_lt (blk_lt BK9.out) : g9 ≠ g11); replace HS0 := Aside0.mk (Kd.S_below HS0.out hb); replace HS1 := Aside0.mk (Kd.S_below HS1.out hb); replace BK9 := Aside0.mk (blk_below BK9.out hb); replace BK10 := Aside0.mk (blk_below BK10.out hb); have BK11 := Aside0.mk hbox; have GE11 := Aside0.mk (by rw [hg]; exact below_size HB.out : w.heap.size ≤ g11); replace HB := Aside0.mk (below_step HB.out hb); have hcz0 : w5.cell? ⟨g10, 0, none⟩ = some (.slice none 0 0) := (blk_cell BK10.out 0).trans rfl; have hcz1 : w5.cell? ⟨g10, 1, none⟩ = some (.slice none 0 0) := (blk_cell BK10.out 1).trans rfl; have hfz0 := blk_frozen BK10.out 0; have hfz1 := blk_frozen BK10.out 1; have hdz0 : w5.cell? ⟨g11, 0, none⟩ = some (.int .i64 0) := (blk_cell BK11.out 0).trans rfl; have hdz1 : w5.cell? ⟨g11, 1, none⟩ = some (.int .i64 0) := (blk_cell BK11.out 1).trans rfl; have hez0 := blk_frozen BK11.out 0; have hez1 := blk_frozen BK11.out 1; have hnb := blk_ne BK10.out BK11.out (by decide); have hnc := Ne.symm hnb; clear hb hbox hg))
    go_meet
    case rel =>
      refine ⟨g10, g11, Ap, cp, Aw, cw, rfl, rfl, ⟨?_⟩, ⟨?_⟩, ⟨?_⟩, ⟨?_⟩, ⟨?_⟩, ⟨?_⟩⟩
      · refine blk_far (blk_far (blk_put (cs := #[.slice Ap P.length cp, .slice none 0 0]) (blk_put (cs := #[.slice none 0 0, .slice none 0 0]) BK10.out 0 _ rfl) 1 _ rfl) hnb _) hnb _
      · refine blk_put (cs := #[.int .i64 0, .int .i64 0]) (blk_put (cs := #[.int .i64 0, .int .i64 0]) (blk_far (blk_far BK11.out hnc _) hnc _) 0 _ rfl) 1 _ rfl
      · refine blk_far (blk_far (blk_far (blk_far BK9.out ?_ _) ?_ _) NB.out _) NB.out _ <;> exact Ne.symm (blk_ne BK10.out BK9.out (by decide))
      · exact Kd.S_far (p := ⟨g11, 1, none⟩) (Kd.S_far (p := ⟨g11, 0, none⟩) (Kd.S_far (p := ⟨g10, 1, none⟩) (Kd.S_far (p := ⟨g10, 0, none⟩) (Kd.S_types (Kd.S_types HS0.out BK10.out (by decide)) BK11.out (by decide)) (fun _ hk => hk.1.2) _) (fun _ hk => hk.1.2) _) (fun _ hk => hk.2) _) (fun _ hk => hk.2) _ |> fun h => Kd.S_mono h (fun _ _ => trivial)
      · exact Kd.S_far (p := ⟨g11, 1, none⟩) (Kd.S_far (p := ⟨g11, 0, none⟩) (Kd.S_far (p := ⟨g10, 1, none⟩) (Kd.S_far (p := ⟨g10, 0, none⟩) (Kd.S_types (Kd.S_types HS1.out BK10.out (by decide)) BK11.out (by decide)) (fun _ hk => hk.1.2) _) (fun _ hk => hk.1.2) _) (fun _ hk => hk.2) _) (fun _ hk => hk.2) _ |> fun h => Kd.S_mono h (fun _ _ => trivial)
      · exact below_set (below_set (below_set (below_set HB.out GE10.out) GE10.out) GE11.out) GE11.out
  case rest =>
    obtain ⟨g10, g11, Ap, cp, Aw, cw, rfl, rfl, BK10, BK11, BK9', HS0, HS1, HB'⟩ := hcut
    clear HB BK9
    have HB := HB'
    have BK9 := BK9'
    clear HB' BK9'
    have hdz0 : wc.cell? ⟨g11, 0, none⟩ = some (.int .i64 0) := (blk_cell BK11.out 0).trans rfl
    have hdz1 : wc.cell? ⟨g11, 1, none⟩ = some (.int .i64 0) := (blk_cell BK11.out 1).trans rfl
    go_upto_region 8 with fail
    clear hdz0 hdz1
    have hD := below_drew (Below.refl wc.heap.size wc)
    have q0 : wc.cell? ⟨g10, 0, none⟩ = some (.slice Ap P.length cp) := (blk_cell BK10.out 0).trans rfl
    have q1 : wc.cell? ⟨g10, 1, none⟩ = some (.slice Aw W.length cw) := (blk_cell BK10.out 1).trans rfl
    replace BK9 := Aside0.mk (blk_below BK9.out hD)
    replace BK10 := Aside0.mk (blk_below BK10.out hD)
    replace HS0 := Aside0.mk (Kd.S_drew HS0.out)
    replace HS1 := Aside0.mk (Kd.S_drew HS1.out)
    replace HB := Aside0.mk (below_drew HB.out)
    clear hD BK11
    go_region_with (first
      | (go_at_call 42; refine Calls.mono (clone_calls ls A c _ (Kd.C_below HL.out HB.out) HL8.out) ?_; rintro e w6 ⟨v6, rfl, hr, hb⟩; obtain ⟨La, Lc, rfl⟩ := Kd.R_slice hr; have HR := Aside0.mk (Kd.R_lower hr (below_size HB.out)); replace BK9 := Aside0.mk (blk_below BK9.out hb); replace BK10 := Aside0.mk (blk_below BK10.out hb); replace HS0 := Aside0.mk (Kd.S_below HS0.out hb); replace HS1 := Aside0.mk (Kd.S_below HS1.out hb); replace HB := Aside0.mk (below_step HB.out hb); have q2 : w6.cell? ⟨g10, 0, none⟩ = some (.slice Ap P.length cp) := (blk_cell BK10.out 0).trans rfl; have q3 : w6.cell? ⟨g10, 1, none⟩ = some (.slice Aw W.length cw) := (blk_cell BK10.out 1).trans rfl; clear hb hr)
      | (go_at_call 19; refine Calls.mono (Tr.make_fit P Ap cp _ (Kd.S_reads' HS0.out).2.2 (Kd.S_reads' HS0.out).2.1 HF.out) ?_; rintro e w7 ⟨bt, rfl, hT, hb⟩; have HT := Aside0.mk hT; have NB9 := Aside0.mk (blk_lt BK9.out); replace BK9 := Aside0.mk (blk_below BK9.out hb); replace BK10 := Aside0.mk (blk_below BK10.out hb); replace HS0 := Aside0.mk (Kd.S_below HS0.out hb); replace HS1 := Aside0.mk (Kd.S_below HS1.out hb); replace HR := Aside0.mk (Kd.R_below HR.out hb); replace HB := Aside0.mk (below_step HB.out hb); have q4 : w7.cell? ⟨g10, 0, none⟩ = some (.slice Ap P.length cp) := (blk_cell BK10.out 0).trans rfl; have q5 : w7.cell? ⟨g10, 1, none⟩ = some (.slice Aw W.length cw) := (blk_cell BK10.out 1).trans rfl; have ha := blk_alloc BK9.out (.cells #[.slice La ls.length Lc, .pointer (some ⟨bt, 0, none⟩), .slice Aw W.length cw, .int .i64 left, .int .i64 right] 95); have hcz0 : (w7.alloc (.cells #[.slice La ls.length Lc, .pointer (some ⟨bt, 0, none⟩), .slice Aw W.length cw, .int .i64 left, .int .i64 right] 95)).cell? ⟨g9, 0, none⟩ = some (.int .i64 0) := (blk_cell ha 0).trans rfl; have hcz1 : (w7.alloc (.cells #[.slice La ls.length Lc, .pointer (some ⟨bt, 0, none⟩), .slice Aw W.length cw, .int .i64 left, .int .i64 right] 95)).cell? ⟨g9, 1, none⟩ = some (.int .i64 0) := (blk_cell ha 1).trans rfl; have hfz0 := blk_frozen ha 0; have hfz1 := blk_frozen ha 1; clear ha; clear hb hT))
    all_goals go_wp2_with fail
    all_goals
      have ha := blk_alloc BK9.out (.cells #[.slice La ls.length Lc, .pointer (some ⟨bt, 0, none⟩), .slice Aw W.length cw, .int .i64 left, .int .i64 right] 95)
      have ne : w7.heap.size ≠ g9 := Nat.ne_of_gt (blk_lt BK9.out)
      refine bodyPost_ret (results_tc rfl _ _ g9 46 #[.int .i64 0, .int .i64 0] (0, 0) _ rfl (blk_put (cs := #[.int .i64 0, .int .i64 0]) (blk_put (cs := #[.int .i64 0, .int .i64 0]) ha 0 _ rfl) 1 _ rfl) Try.underlying46 rfl (by kernel_rfl)) rfl ?_
      have x1 := blk_far (blk_far (blk_new w7 (.cells #[.slice La ls.length Lc, .pointer (some ⟨bt, 0, none⟩), .slice Aw W.length cw, .int .i64 left, .int .i64 right] 95)) ne (p := ⟨g9, 0, none⟩) (.int .i64 0)) ne (p := ⟨g9, 1, none⟩) (.int .i64 0)
      have x2 := (Kd.R_reads' (Kd.R_far (p := ⟨g9, 1, none⟩) (Kd.R_far (p := ⟨g9, 0, none⟩) (Kd.R_types (Kd.R_alloc HR.out _) ha (by decide)) (fun _ hk => hk.2) (.int .i64 0)) (fun _ hk => hk.2) (.int .i64 0))).2.2
      have x3 := ((HT.out.below (below_alloc (Below.refl _ _) (.cells #[.slice La ls.length Lc, .pointer (some ⟨bt, 0, none⟩), .slice Aw W.length cw, .int .i64 left, .int .i64 right] 95))).set NB9.out 0 (.int .i64 0)).set NB9.out 1 (.int .i64 0)
      have x4 := (Kd.S_reads' (Kd.S_far (p := ⟨g9, 1, none⟩) (Kd.S_far (p := ⟨g9, 0, none⟩) (Kd.S_types (Kd.S_alloc HS1.out _) ha (by decide)) (fun _ hk => hk.2) (.int .i64 0)) (fun _ hk => hk.2) (.int .i64 0))).2.2
      exact ⟨w7.heap.size, La, Lc, bt, _, Aw, cw, rfl, ⟨x1, x2, x3, x4, (Kd.S_reads' HS1.out).2.1⟩, below_set (below_set (below_alloc HB.out _) GE9.out) GE9.out⟩
end Go.Proofs.Ytoefjhdcipgacaa.Hy
end
section
namespace Go.Proofs.Ytoefjhdcipgacaa.Hy
open Go.RowKit Go.Proofs.YtoefjhdcipgacaaW.PrintWords Go.Proofs.YtoefjhdcipgacaaW.PrintLast Go.Proofs.YtoefjhdcipgacaaW.PrintMore
open Go.Proofs.Ytoefjhdcipgacaa.PA
attribute [local go_sem] max2_int min2_int max_two min_two
set_option linter.unusedSimpArgs false
set_option linter.unusedVariables false
def awP : List S39 := [⟨[104, 121, 112], [0, 0, 1, 0]⟩]
def awW : List S39 := [⟨[116, 97, 98, 108, 101], [0, 0, 1, 0, 0, 0]⟩]
def lowL : List S63 := [⟨97, 122, 97⟩]
set_option maxRecDepth 100000 in
theorem aw_parse : pats_Parse.f 40 { data := #[104, 121, 49, 112, 32, 116, 97, 45, 98, 108, 101] } = some (awP, awW, 0, 0) := by kernel_rfl
theorem low_check : hyph_Check.f 40 lowL = some true := by kernel_rfl
theorem aw_fit : Tr.Fit awP := by
  refine ⟨by decide, fun p hp => ?_⟩
  simp only [awP, List.mem_cons, List.not_mem_nil, or_false] at hp
  subst hp
  refine ⟨by decide, by decide, fun r hr => ?_, by decide⟩
  simp only [List.mem_cons, List.not_mem_nil, or_false] at hr
  rcases hr with rfl | rfl | rfl <;> exact ⟨by decide, by decide⟩
theorem aw_told : ∀ p ∈ awW, p.f1.length = p.f0.length + 1 := by decide
def hyphen : List Int := [104, 121, 112, 104, 101, 110]
def table : List Int := [116, 97, 98, 108, 101]
theorem word_of {l : List Int} (h : l.length ≤ 1000) (h2 : ∀ r ∈ l, -2147483648 ≤ r ∧ r ≤ 2147483647) : Tr.Word l := ⟨h, h2⟩
theorem hyphen_word : Tr.Word hyphen := word_of (by decide) (by decide)
theorem table_word : Tr.Word table := word_of (by decide) (by decide)
theorem aw_1 : pts (wordVals awP awW hyphen) 6 2 2 = [false, false, true, false, false, false, false] := by decide +kernel
theorem aw_2 : pts (wordVals awP awW table) 5 2 2 = [false, false, true, false, false, false] := by decide +kernel
theorem aw_3 : pts (wordVals awP awW table) 5 2 4 = [false, false, false, false, false, false] := by decide +kernel
set_option maxHeartbeats 8000000 in
set_option maxRecDepth 100000 in
theorem awake09_calls (w : World) : Calls Try.prog 24 #[] w fun e w' => e = .returned (.bool true) ∧ Below w.heap.size w w' := by
  have HB := Aside0.mk (Below.refl w.heap.size w)
  go_enter Try.func24, Try.ntmps24
  go_upto_region 1 with fail
  go_cut [1, 2] (fun v1 v2 wc => ∃ b La Lc bt base Wa Wc g2, v1 = .pointer (some ⟨b, 0, none⟩) ∧ v2 = .pointer (some ⟨g2, 0, none⟩) ∧ Aside0 (HyphAt wc b lowL (Tr.make (awP.map Tr.pq)) awW 2 2 La Lc bt base Wa Wc) ∧ Aside0 (wc.heap[g2]? = some (.cells #[.int .i64 0, .int .i64 0] 46 (0, 0))) ∧ Aside0 (Below w.heap.size w wc))
  case first =>
    go_wp2_with (first
      | ((with_reducible refine gate_callee (f := 36) rfl ?_); (refine goesL_ (some 9) rfl rfl Try.func36 (by kernel_rfl) rfl #[] rfl (by (try simp only [List.map_toArray, List.map_cons, List.map_nil]); first | done | rfl) ?_; refine (stanzalaw09_low.calls lowL _ rfl).mono ?_; rintro e wa ⟨v, rfl, hr, hb⟩; refine ⟨_, rfl, ?_⟩; obtain ⟨Al, cl, hv_, hl_, hc_⟩ := Kd.R_reads hr; subst hv_; have HLl := Aside0.mk hl_; have HLc := Aside0.mk hc_; replace HB := Aside0.mk (below_step HB.out hb); clear hb hr hl_ hc_))
      | ((with_reducible refine gate_callee (f := 26) rfl ?_); (refine goesL_ (some 10) rfl rfl Try.func26 (by kernel_rfl) rfl #[.string { data := #[104, 121, 49, 112, 32, 116, 97, 45, 98, 108, 101] }, .slice Al lowL.length cl, .int .i64 2, .int .i64 2] rfl (by (try simp only [List.map_toArray, List.map_cons, List.map_nil]); first | done | rfl) ?_; refine (new_ok 40 _ Al cl lowL 2 2 awP awW _ HLc.out HLl.out (by decide) low_check (by decide) (by decide) (by decide) (by decide) aw_parse aw_fit).mono ?_; rintro e wb ⟨b, La, Lc, bt, base, Wa, Wc, rfl, hH, hb⟩; refine ⟨_, rfl, ?_⟩; have HH := Aside0.mk hH; replace HB := Aside0.mk (below_step HB.out hb); clear hb hH HLl HLc))
      | ((with_reducible refine gate_dst (N := 2) rfl ?_); refine box_event ?hg (N := 2) ?hd (cs := #[.int .i64 0, .int .i64 0]) (t := 46) ?hr ?_; (case hd => rfl); (case hg => rfl); (case hr => first | (go_simp; done) | (go_simp; rfl)); intro gx hg wc1 hbox hb; have GE := Aside0.mk (by rw [hg]; exact below_size HB.out : w.heap.size ≤ gx); have GH := Aside0.mk (Nat.le_of_eq hg.symm : wb.heap.size ≤ gx); have BKx := Aside0.mk hbox; have HBb := Aside0.mk hb; replace HB := Aside0.mk (below_step HB.out hb); have hcz0 : wc1.cell? ⟨gx, 0, none⟩ = some (.int .i64 0) := (blk_cell hbox 0).trans rfl; have hcz1 : wc1.cell? ⟨gx, 1, none⟩ = some (.int .i64 0) := (blk_cell hbox 1).trans rfl; have hfz0 := blk_frozen hbox 0; have hfz1 := blk_frozen hbox 1; clear hb hbox hg))
    go_meet
    case rel =>
      refine ⟨b, La, Lc, bt, base, Wa, Wc, gx, rfl, rfl, ⟨HH.out.below (below_set (below_set HBb.out GH.out) GH.out)⟩, ⟨?_⟩, ⟨below_set (below_set HB.out GE.out) GE.out⟩⟩
      exact blk_put (cs := #[.int .i64 0, .int .i64 0]) (blk_put (cs := #[.int .i64 0, .int .i64 0]) BKx.out 0 _ rfl) 1 _ rfl
  case rest =>
    obtain ⟨b1, La1, Lc1, bt1, base1, Wa1, Wc1, g2, rfl, rfl, HH1, BK2, HB'⟩ := hcut
    clear HB
    have HB := HB'
    clear HB'
    rename World => wz
    go_upto_region 2 with fail
    go_cut [3, 4] (fun v3 v4 wc => ∃ b La Lc bt base Wa Wc g4, v3 = .pointer (some ⟨b, 0, none⟩) ∧ v4 = .pointer (some ⟨g4, 0, none⟩) ∧ Aside0 (HyphAt wc b1 lowL (Tr.make (awP.map Tr.pq)) awW 2 2 La1 Lc1 bt1 base1 Wa1 Wc1) ∧ Aside0 (HyphAt wc b lowL (Tr.make (awP.map Tr.pq)) awW 2 4 La Lc bt base Wa Wc) ∧ Aside0 (wc.heap[g2]? = some (.cells #[.int .i64 0, .int .i64 0] 46 (0, 0))) ∧ Aside0 (wc.heap[g4]? = some (.cells #[.int .i64 0, .int .i64 0] 46 (0, 0))) ∧ Aside0 (Below w.heap.size w wc))
    case first =>
      go_wp2_with (first
      | ((with_reducible refine gate_callee (f := 36) rfl ?_); (refine goesL_ (some 14) rfl rfl Try.func36 (by kernel_rfl) rfl #[] rfl (by (try simp only [List.map_toArray, List.map_cons, List.map_nil]); first | done | rfl) ?_; refine (stanzalaw09_low.calls lowL _ rfl).mono ?_; rintro e wa ⟨v, rfl, hr, hb⟩; refine ⟨_, rfl, ?_⟩; obtain ⟨Al, cl, hv_, hl_, hc_⟩ := Kd.R_reads hr; subst hv_; have HLl := Aside0.mk hl_; have HLc := Aside0.mk hc_; replace HB := Aside0.mk (below_step HB.out hb); replace HH1 := Aside0.mk (HH1.out.below hb); replace BK2 := Aside0.mk (blk_below BK2.out hb); clear hb hr hl_ hc_))
      | ((with_reducible refine gate_callee (f := 26) rfl ?_); (refine goesL_ (some 15) rfl rfl Try.func26 (by kernel_rfl) rfl #[.string { data := #[104, 121, 49, 112, 32, 116, 97, 45, 98, 108, 101] }, .slice Al lowL.length cl, .int .i64 2, .int .i64 4] rfl (by (try simp only [List.map_toArray, List.map_cons, List.map_nil]); first | done | rfl) ?_; refine (new_ok 40 _ Al cl lowL 2 4 awP awW _ HLc.out HLl.out (by decide) low_check (by decide) (by decide) (by decide) (by decide) aw_parse aw_fit).mono ?_; rintro e wb ⟨b, La, Lc, bt, base, Wa, Wc, rfl, hH, hb⟩; refine ⟨_, rfl, ?_⟩; have HH := Aside0.mk hH; replace HB := Aside0.mk (below_step HB.out hb); replace HH1 := Aside0.mk (HH1.out.below hb); replace BK2 := Aside0.mk (blk_below BK2.out hb); clear hb hH HLl HLc))
      | ((with_reducible refine gate_dst (N := 4) rfl ?_); refine box_event ?hg (N := 4) ?hd (cs := #[.int .i64 0, .int .i64 0]) (t := 46) ?hr ?_; (case hd => rfl); (case hg => rfl); (case hr => first | (go_simp; done) | (go_simp; rfl)); intro gx hg wc1 hbox hb; have GE := Aside0.mk (by rw [hg]; exact below_size HB.out : w.heap.size ≤ gx); have GH := Aside0.mk (Nat.le_of_eq hg.symm : wb.heap.size ≤ gx); have BKx := Aside0.mk hbox; have HBb := Aside0.mk hb; replace HB := Aside0.mk (below_step HB.out hb); have hcz0 : wc1.cell? ⟨gx, 0, none⟩ = some (.int .i64 0) := (blk_cell hbox 0).trans rfl; have hcz1 : wc1.cell? ⟨gx, 1, none⟩ = some (.int .i64 0) := (blk_cell hbox 1).trans rfl; have hfz0 := blk_frozen hbox 0; have hfz1 := blk_frozen hbox 1; clear hb hbox hg))
      go_meet
      case rel =>
        refine ⟨b, La, Lc, bt, base, Wa, Wc, gx, rfl, rfl, ⟨HH1.out.below (below_set (below_set HBb.out GH.out) GH.out)⟩, ⟨HH.out.below (below_set (below_set HBb.out GH.out) GH.out)⟩, ⟨blk_below BK2.out (below_set (below_set HBb.out GH.out) GH.out)⟩, ⟨?_⟩, ⟨below_set (below_set HB.out GE.out) GE.out⟩⟩
        exact blk_put (cs := #[.int .i64 0, .int .i64 0]) (blk_put (cs := #[.int .i64 0, .int .i64 0]) BKx.out 0 _ rfl) 1 _ rfl
    case rest =>
      obtain ⟨b2, La2, Lc2, bt2, base2, Wa2, Wc2, g4, rfl, rfl, HH1', HH2, BK2', BK4, HB'⟩ := hcut
      clear HB HH1 BK2
      rename World => wy
      have q2 : wy.cell? ⟨g2, 0, none⟩ = some (.int .i64 0) := (blk_cell BK2'.out 0).trans rfl
      have q4 : wy.cell? ⟨g4, 0, none⟩ = some (.int .i64 0) := (blk_cell BK4.out 0).trans rfl
      go_upto_region 5 with fail
      clear q2 q4 BK2' BK4
      have HB := HB'
      have HH1 := HH1'
      clear HB' HH1'
      go_cut [5, 6, 7] (fun v5 v6 v7 wc => ∃ A5 c5 A6 c6 A7 c7, v5 = .slice A5 7 c5 ∧ v6 = .slice A6 6 c6 ∧ v7 = .slice A7 6 c7 ∧ Aside0 (Kd.C Kd.bool wc A5 7 [false, false, true, false, false, false, false]) ∧ Aside0 (Kd.C Kd.bool wc A6 6 [false, false, true, false, false, false]) ∧ Aside0 (Kd.C Kd.bool wc A7 6 [false, false, false, false, false, false]) ∧ Aside0 (Below w.heap.size w wc))
      case first =>
        go_wp2_with (first
          | ((with_reducible refine gate_dst (N := 27) rfl ?_); (refine Kd.R_lit (Kd.int .i32) (w0 := w) w.heap.size 21 ?hg (N := 27) ?hd (xs := hyphen) (inner := [.int .i32 104, .int .i32 121, .int .i32 112, .int .i32 104, .int .i32 101, .int .i32 110]) (ok := fun _ => True) (okp := fun _ => True) ?hr ?hp (fun _ hk => hk) trivial HB.out (below_size HB.out) (by decide) ?_; (case hd => rfl); (case hg => rfl); (case hr => first | (go_simp; done) | (go_simp; rfl)); (case hp => exact (Reps.one (show Kd.M (Kd.int .i32) _ _ _ 104 [.int .i32 104] from rfl) (Reps.one (show Kd.M (Kd.int .i32) _ _ _ 121 [.int .i32 121] from rfl) (Reps.one (show Kd.M (Kd.int .i32) _ _ _ 112 [.int .i32 112] from rfl) (Reps.one (show Kd.M (Kd.int .i32) _ _ _ 104 [.int .i32 104] from rfl) (Reps.one (show Kd.M (Kd.int .i32) _ _ _ 101 [.int .i32 101] from rfl) (Reps.one (show Kd.M (Kd.int .i32) _ _ _ 110 [.int .i32 110] from rfl) (Reps.none _ _)))))))); intro v27 w27 ho hb_ hg_ hn_; clear hn_; obtain ⟨A27, c27, hv_, hl_, hc_⟩ := Kd.R_reads ho; subst hv_; have HL27 := Aside0.mk hl_; have HC27 := Aside0.mk hc_; have hb := below_none hg_; replace HH1 := Aside0.mk (HH1.out.below hb); replace HH2 := Aside0.mk (HH2.out.below hb); replace HB := Aside0.mk hb_; clear ho hb_ hg_ hl_ hc_ hb))
          | ((with_reducible refine gate_callee (f := 33) rfl ?_); (refine goesL_ (some 28) rfl rfl Try.func33 (by kernel_rfl) rfl #[.pointer (some ⟨b1, 0, none⟩), .slice A27 hyphen.length c27] rfl (by (try simp only [List.map_toArray, List.map_cons, List.map_nil]); first | done | rfl) ?_; refine (word_calls b1 lowL awP awW 2 2 La1 Lc1 bt1 base1 Wa1 Wc1 A27 c27 hyphen _ HH1.out HC27.out HL27.out aw_fit hyphen_word (by decide) (by decide) aw_told).mono ?_; rintro e wa ⟨v, rfl, hr, hb⟩; refine ⟨_, rfl, ?_⟩; rw [show hyphen.length = 6 from rfl, aw_1] at hr; obtain ⟨A5, c5, hv_, hl_, hc_⟩ := Kd.R_reads hr; subst hv_; have HC5 := Aside0.mk hc_; replace HH1 := Aside0.mk (HH1.out.below hb); replace HH2 := Aside0.mk (HH2.out.below hb); replace HB := Aside0.mk (below_step HB.out hb); clear hb hr hl_ hc_))
          | ((with_reducible refine gate_dst (N := 30) rfl ?_); (refine Kd.R_lit (Kd.int .i32) (w0 := w) w.heap.size 21 ?hg (N := 30) ?hd (xs := table) (inner := [.int .i32 116, .int .i32 97, .int .i32 98, .int .i32 108, .int .i32 101]) (ok := fun _ => True) (okp := fun _ => True) ?hr ?hp (fun _ hk => hk) trivial HB.out (below_size HB.out) (by decide) ?_; (case hd => rfl); (case hg => rfl); (case hr => first | (go_simp; done) | (go_simp; rfl)); (case hp => exact (Reps.one (show Kd.M (Kd.int .i32) _ _ _ 116 [.int .i32 116] from rfl) (Reps.one (show Kd.M (Kd.int .i32) _ _ _ 97 [.int .i32 97] from rfl) (Reps.one (show Kd.M (Kd.int .i32) _ _ _ 98 [.int .i32 98] from rfl) (Reps.one (show Kd.M (Kd.int .i32) _ _ _ 108 [.int .i32 108] from rfl) (Reps.one (show Kd.M (Kd.int .i32) _ _ _ 101 [.int .i32 101] from rfl) (Reps.none _ _))))))); intro v30 w30 ho hb_ hg_ hn_; clear hn_; obtain ⟨A30, c30, hv_, hl_, hc_⟩ := Kd.R_reads ho; subst hv_; have HL30 := Aside0.mk hl_; have HC30 := Aside0.mk hc_; have hb := below_none hg_; replace HC5 := Aside0.mk (Kd.C_below HC5.out hb); replace HH1 := Aside0.mk (HH1.out.below hb); replace HH2 := Aside0.mk (HH2.out.below hb); replace HB := Aside0.mk hb_; clear ho hb_ hg_ hl_ hc_ hb))
          | ((with_reducible refine gate_callee (f := 33) rfl ?_); (refine goesL_ (some 31) rfl rfl Try.func33 (by kernel_rfl) rfl #[.pointer (some ⟨b1, 0, none⟩), .slice A30 table.length c30] rfl (by (try simp only [List.map_toArray, List.map_cons, List.map_nil]); first | done | rfl) ?_; refine (word_calls b1 lowL awP awW 2 2 La1 Lc1 bt1 base1 Wa1 Wc1 A30 c30 table _ HH1.out HC30.out HL30.out aw_fit table_word (by decide) (by decide) aw_told).mono ?_; rintro e wa ⟨v, rfl, hr, hb⟩; refine ⟨_, rfl, ?_⟩; rw [show table.length = 5 from rfl, aw_2] at hr; obtain ⟨A6, c6, hv_, hl_, hc_⟩ := Kd.R_reads hr; subst hv_; have HC6 := Aside0.mk hc_; replace HC5 := Aside0.mk (Kd.C_below HC5.out hb); replace HH2 := Aside0.mk (HH2.out.below hb); replace HB := Aside0.mk (below_step HB.out hb); clear hb hr hl_ hc_))
          | ((with_reducible refine gate_dst (N := 33) rfl ?_); (refine Kd.R_lit (Kd.int .i32) (w0 := w) w.heap.size 21 ?hg (N := 33) ?hd (xs := table) (inner := [.int .i32 116, .int .i32 97, .int .i32 98, .int .i32 108, .int .i32 101]) (ok := fun _ => True) (okp := fun _ => True) ?hr ?hp (fun _ hk => hk) trivial HB.out (below_size HB.out) (by decide) ?_; (case hd => rfl); (case hg => rfl); (case hr => first | (go_simp; done) | (go_simp; rfl)); (case hp => exact (Reps.one (show Kd.M (Kd.int .i32) _ _ _ 116 [.int .i32 116] from rfl) (Reps.one (show Kd.M (Kd.int .i32) _ _ _ 97 [.int .i32 97] from rfl) (Reps.one (show Kd.M (Kd.int .i32) _ _ _ 98 [.int .i32 98] from rfl) (Reps.one (show Kd.M (Kd.int .i32) _ _ _ 108 [.int .i32 108] from rfl) (Reps.one (show Kd.M (Kd.int .i32) _ _ _ 101 [.int .i32 101] from rfl) (Reps.none _ _))))))); intro v33 w33 ho hb_ hg_ hn_; clear hn_; obtain ⟨A33, c33, hv_, hl_, hc_⟩ := Kd.R_reads ho; subst hv_; have HL33 := Aside0.mk hl_; have HC33 := Aside0.mk hc_; have hb := below_none hg_; replace HC5 := Aside0.mk (Kd.C_below HC5.out hb); replace HC6 := Aside0.mk (Kd.C_below HC6.out hb); replace HH2 := Aside0.mk (HH2.out.below hb); replace HB := Aside0.mk hb_; clear ho hb_ hg_ hl_ hc_ hb))
          | ((with_reducible refine gate_callee (f := 33) rfl ?_); (refine goesL_ (some 34) rfl rfl Try.func33 (by kernel_rfl) rfl #[.pointer (some ⟨b2, 0, none⟩), .slice A33 table.length c33] rfl (by (try simp only [List.map_toArray, List.map_cons, List.map_nil]); first | done | rfl) ?_; refine (word_calls b2 lowL awP awW 2 4 La2 Lc2 bt2 base2 Wa2 Wc2 A33 c33 table _ HH2.out HC33.out HL33.out aw_fit table_word (by decide) (by decide) aw_told).mono ?_; rintro e wa ⟨v, rfl, hr, hb⟩; refine ⟨_, rfl, ?_⟩; rw [show table.length = 5 from rfl, aw_3] at hr; obtain ⟨A7, c7, hv_, hl_, hc_⟩ := Kd.R_reads hr; subst hv_; have HC7 := Aside0.mk hc_; replace HC5 := Aside0.mk (Kd.C_below HC5.out hb); replace HC6 := Aside0.mk (Kd.C_below HC6.out hb); replace HB := Aside0.mk (below_step HB.out hb); clear hb hr hl_ hc_)))
        go_meet
        case rel => exact ⟨A5, c5, A6, c6, A7, c7, rfl, rfl, rfl, HC5, HC6, HC7, HB⟩
      case rest =>
        obtain ⟨A5, c5, A6, c6, A7, c7, rfl, rfl, rfl, HC5, HC6, HC7, HB'⟩ := hcut
        obtain ⟨ad5, e5, x52⟩ := Kd.at_bool HC5.out 2 (by decide) (by decide)
        subst e5
        obtain ⟨ad5', e5, x53⟩ := Kd.at_bool HC5.out 3 (by decide) (by decide)
        injection e5 with e5
        subst e5
        obtain ⟨ad6, e6, x62⟩ := Kd.at_bool HC6.out 2 (by decide) (by decide)
        subst e6
        obtain ⟨ad7, e7, x72⟩ := Kd.at_bool HC7.out 2 (by decide) (by decide)
        subst e7
        replace x52 : wc.cell? ⟨ad5.block, ad5.off + 2, none⟩ = some (.bool true) := x52
        replace x53 : wc.cell? ⟨ad5.block, ad5.off + 3, none⟩ = some (.bool false) := x53
        replace x62 : wc.cell? ⟨ad6.block, ad6.off + 2, none⟩ = some (.bool true) := x62
        replace x72 : wc.cell? ⟨ad7.block, ad7.off + 2, none⟩ = some (.bool false) := x72
        go_wp2_with fail
        go_ret
        exact ⟨rfl, HB'.out⟩
end Go.Proofs.Ytoefjhdcipgacaa.Hy
end
section
namespace Go.Proofs.Ytoefjhdcipgacaa.Hy
open Go.RowKit Go.Proofs.YtoefjhdcipgacaaW.PrintWords Go.Proofs.YtoefjhdcipgacaaW.PrintLast Go.Proofs.YtoefjhdcipgacaaW.PrintMore
open Go.Proofs.Ytoefjhdcipgacaa.PA Go.Proofs.Ytoefjhdcipgacaa.Dec
theorem low_check' : hyph_Check.f 40000 lowL = some true := mono_le (hyph_Check.mono lowL) low_check 40000 (by decide)
abbrev codeOf (s : ByteArray) : Int := (parseOf s).2.2.1
abbrev atOf (s : ByteArray) : Int := (parseOf s).2.2.2
abbrev patsOf (s : ByteArray) : List S39 := (parseOf s).1
abbrev toldOf (s : ByteArray) : List S39 := (parseOf s).2.1
theorem pparse_zero (f : Nat) : ∀ (l : List S66) (xs ws : List S39), (pparse f l xs ws).2.2.1 = 0 → (pparse f l xs ws).2.2.2 = 0 := by
  induction f with
  | zero => intro l xs ws _; rfl
  | succ f ih =>
    intro l xs ws h
    cases l with
    | nil => rfl
    | cons s t =>
      rw [pparse] at h ⊢
      split at h
      · rename_i hb; rw [if_pos hb]; exact ih _ _ _ h
      · rename_i hb
        rw [if_neg hb]
        split at h
        · cases h
        · rename_i hm
          rw [if_neg hm]
          dsimp only at h ⊢
          split at h
          · rename_i hok
            rw [if_pos hok]
            split at h
            · rename_i hh
              rw [if_pos hh]
              split at h
              · cases h
              · rename_i hk; rw [if_neg hk]; exact ih _ _ _ h
            · rename_i hh; rw [if_neg hh]; exact ih _ _ _ h
          · cases h
theorem at_zero {s : ByteArray} (h : codeOf s = 0) : atOf s = 0 := by
  unfold codeOf atOf parseOf at *
  split at h
  · cases h
  · rename_i hs; rw [if_neg hs]; exact pparse_zero _ _ _ _ h
theorem parse_eq' (s : ByteArray) : pats_Parse.f 40000 s = some (patsOf s, toldOf s, codeOf s, atOf s) := parse_eq s 40000 (Nat.le_refl _)
theorem newB (s : ByteArray) (A : Option Addr) (c : Nat) (ls : List S63) (left right : Int) (w : World) (hl : Kd.C k63 w A ls.length ls) (hlc : ls.length ≤ c) (hck : hyph_Check.f 40000 ls = some true) (h1 : 1 ≤ left ∧ left ≤ 24) (h2 : 1 ≤ right ∧ right ≤ 24) (hc : codeOf s ≠ 0) :
    Calls Try.prog 26 #[.string s, .slice A ls.length c, .int .i64 left, .int .i64 right] w fun e w' => e = .returned (.tuple #[.pointer none, .agg #[.int .i64 (codeOf s), .int .i64 (atOf s)]]) ∧ Below w.heap.size w w' :=
  new_bad3 40000 s A c ls left right (patsOf s) (toldOf s) (codeOf s) (atOf s) w hl hlc hck h1.1 h2.1 h1.2 h2.2 (parse_eq' s) hc
theorem newC (s : ByteArray) (A : Option Addr) (c : Nat) (ls : List S63) (left right : Int) (w : World) (hl : Kd.C k63 w A ls.length ls) (hlc : ls.length ≤ c) (h8 : ls.length ≤ 1000000) (hck : hyph_Check.f 40000 ls = some true) (h1 : 1 ≤ left ∧ left ≤ 24) (h2 : 1 ≤ right ∧ right ≤ 24) (hc : codeOf s = 0) :
    Calls Try.prog 26 #[.string s, .slice A ls.length c, .int .i64 left, .int .i64 right] w fun e w' => ∃ b La Lc bt base Wa Wc, e = .returned (.tuple #[.pointer (some ⟨b, 0, none⟩), .agg #[.int .i64 0, .int .i64 0]]) ∧ HyphAt w' b ls (Tr.make ((patsOf s).map Tr.pq)) (toldOf s) left right La Lc bt base Wa Wc ∧ Below w.heap.size w w' :=
  new_ok 40000 s A c ls left right (patsOf s) (toldOf s) w hl hlc h8 hck h1.1 h2.1 h1.2 h2.2 (by rw [parse_eq' s, hc, at_zero hc]) (parseOf_fit s)
def letter4 (r : Int) : Int := rd [97, 98, 99, 100] (r % 4294967296 % 4)
def fewL (fit : Bool) (l : List Int) : List Int := (l.take 80).map fun r => if fit = true then letter4 r else r
theorem few_run (fit : Bool) (l : List Int) (m : Nat) : ∀ (i k : Nat) (xs : List Int), 80 - i ≤ m → i ≤ l.length → i ≤ 80 → xs.length = i → m + 2 ≤ k → stanzalaw09_few.l0 k fit xs l (l.length : Int) (i : Int) = some (xs ++ ((l.take 80).drop i).map fun r => if fit = true then letter4 r else r) := by
  induction m with
  | zero =>
    intro i k xs hm hi h8 hx hk
    have hi8 : i = 80 := by omega
    obtain ⟨k, rfl⟩ : ∃ k', k = k' + 1 := ⟨k - 1, by omega⟩
    rw [stanzalaw09_few.l0.eq_2, List.drop_eq_nil_of_le (by rw [List.length_take]; omega), List.map_nil, List.append_nil]
    by_cases h : (i : Int) < (l.length : Int)
    · rw [if_pos h, if_pos (by omega), if_pos h, if_pos (by omega)]
    · rw [if_neg h]
  | succ m ih =>
    intro i k xs hm hi h8 hx hk
    obtain ⟨k, rfl⟩ : ∃ k', k = k' + 1 := ⟨k - 1, by omega⟩
    rw [stanzalaw09_few.l0.eq_2]
    by_cases h : (i : Int) < (l.length : Int)
    · rw [if_pos h, if_pos (by omega), if_pos h]
      by_cases h80 : (i : Int) ≥ 80
      · rw [if_pos h80, List.drop_eq_nil_of_le (by rw [List.length_take]; omega), List.map_nil, List.append_nil]
      · rw [if_neg h80]
        have hil : i < l.length := by omega
        have hit : i < (l.take 80).length := by rw [List.length_take]; omega
        have hr : rd l (i : Int) = l[i] := by simp [rd, List.getD_eq_getElem?_getD, List.getElem?_eq_getElem hil]
        have hd : (l.take 80).drop i = l[i] :: (l.take 80).drop (i + 1) := by
          rw [List.drop_eq_getElem_cons hit, List.getElem_take]
        have hw : wrap64 ((i : Int) + 1) = ((i + 1 : Nat) : Int) := by rw [w64 _ ⟨by omega, by omega⟩]; omega
        rw [hd, List.map_cons, hr, hw]
        cases fit with
        | true =>
          rw [if_pos rfl, Option.bind_some, if_pos (by omega), if_pos (by simp only [List.length_cons, List.length_nil]; omega), if_pos (by omega)]
          rw [ih (i + 1) k _ (by omega) (by omega) (by omega) (by rw [List.length_append, hx]; rfl) (by omega), List.append_assoc]
          rfl
        | false =>
          rw [if_neg (by decide), if_pos (by omega)]
          rw [ih (i + 1) k _ (by omega) (by omega) (by omega) (by rw [List.length_append, hx]; rfl) (by omega), List.append_assoc]
          rfl
    · rw [if_neg h, List.drop_eq_nil_of_le (by rw [List.length_take]; omega), List.map_nil, List.append_nil]
theorem few_eq (fit : Bool) (l : List Int) : stanzalaw09_few.f 100 l fit = some (fewL fit l) := by
  have := few_run fit l 80 0 100 [] (by omega) (Nat.zero_le _) (by omega) rfl (by omega)
  rw [List.nil_append, List.drop_zero] at this
  exact this
theorem letter4_in (r : Int) : 97 ≤ letter4 r ∧ letter4 r ≤ 100 := by
  unfold letter4
  have h1 : 0 ≤ r % 4294967296 % 4 := Int.emod_nonneg _ (by decide)
  have h2 : r % 4294967296 % 4 < 4 := Int.emod_lt_of_pos _ (by decide)
  obtain ⟨n, hn⟩ : ∃ n : Nat, (r % 4294967296 % 4) = (n : Int) := ⟨(r % 4294967296 % 4).toNat, by omega⟩
  rw [hn]
  have : n < 4 := by omega
  match n, this with
  | 0, _ => exact ⟨by decide, by decide⟩
  | 1, _ => exact ⟨by decide, by decide⟩
  | 2, _ => exact ⟨by decide, by decide⟩
  | 3, _ => exact ⟨by decide, by decide⟩
theorem fewL_len (fit : Bool) (l : List Int) : (fewL fit l).length ≤ 80 := by
  unfold fewL
  rw [List.length_map, List.length_take]; omega
theorem fewL_word (fit : Bool) (l : List Int) (h : ∀ r ∈ l, Tr.In32 r) : Tr.Word (fewL fit l) := by
  refine ⟨Nat.le_trans (fewL_len fit l) (by decide), fun r hr => ?_⟩
  obtain ⟨s, hs, rfl⟩ := List.mem_map.1 hr
  cases fit with
  | false => exact h s (List.mem_of_mem_take hs)
  | true => have := letter4_in s; exact ⟨by show _ ≤ letter4 s; omega, by show letter4 s ≤ _; omega⟩
theorem pt_least (V : List Int) (n : Nat) (x y : Int) (hx : 1 ≤ x) (hy : 1 ≤ y) (j : Nat) : ptAt V n x y j = (ptAt V n 1 1 j && (decide (x ≤ (j : Int)) && decide (y ≤ (n : Int) - (j : Int)))) := by
  unfold ptAt
  rw [Bool.eq_iff_iff]
  simp only [Bool.and_eq_true, decide_eq_true_eq]
  constructor
  · rintro ⟨h1, h2, h3⟩
    exact ⟨⟨by omega, by omega, h3⟩, h1, by omega⟩
  · rintro ⟨⟨h1, h2, h3⟩, h4, h5⟩
    exact ⟨h4, by omega, h3⟩
theorem pts_rd (V : List Int) (n : Nat) (x y : Int) (j : Nat) (h : j < n + 1) : rdOf false (pts V n x y) (j : Int) = ptAt V n x y j := by
  rw [rdOf, Int.toNat_natCast]
  exact pts_getD V n x y j h
end Go.Proofs.Ytoefjhdcipgacaa.Hy
end
section
namespace Go.Proofs.Ytoefjhdcipgacaa.Hy
open Go.RowKit Go.Proofs.YtoefjhdcipgacaaW.PrintWords Go.Proofs.YtoefjhdcipgacaaW.PrintLast Go.Proofs.YtoefjhdcipgacaaW.PrintMore
open Go.Proofs.Ytoefjhdcipgacaa.PA
attribute [local go_sem] max2_int min2_int max_two min_two
set_option linter.unusedSimpArgs false
set_option linter.unusedVariables false
set_option maxHeartbeats 8000000 in
set_option maxRecDepth 100000 in
theorem least_walk (s : ByteArray) (ws : List Int) (A : Option Addr) (c : Nat) (left right : Int) (w : World) (hs : s.size ≤ 140737488351232) (hw : Kd.C (Kd.int .i32) w A ws.length ws) (hwc : ws.length ≤ c) (h32 : ∀ r ∈ ws, Tr.In32 r) (hl : 0 ≤ left ∧ left ≤ 255) (hr : 0 ≤ right ∧ right ≤ 255) :
    Calls Try.prog 13 #[.string s, .slice A ws.length c, .int .u8 left, .int .u8 right] w fun e w' => e = .returned (.bool true) ∧ Below w.heap.size w w' := by
  have HC_ws := Aside0.mk hw
  have HL_ws := Aside0.mk hwc
  have HW32 := Aside0.mk (fewL_word true ws h32)
  have HWM := Aside0.mk (Nat.le_trans (Kd.C_max hw) (by decide : (9223372036854775807 : Nat) ≤ 9223372036854775807))
  clear hw hwc h32
  by_cases hsz : s.size ≤ 2000
  · obtain ⟨x, hx⟩ : ∃ x, x = 1 + left % 9 := ⟨_, rfl⟩
    obtain ⟨y, hy⟩ : ∃ y, y = 1 + right % 9 := ⟨_, rfl⟩
    have bx : 1 ≤ x ∧ x ≤ 24 := by omega
    have by_ : 1 ≤ y ∧ y ≤ 24 := by omega
    have HX := Aside0.mk hx
    have HY := Aside0.mk hy
    clear hx hy
    go_enter Try.func13, Try.ntmps13
    go_upto_region 6 with (first
      | ((with_reducible refine gate_callee (f := 24) rfl ?_); (refine goesL_ (some 18) rfl rfl Try.func24 (by kernel_rfl) rfl #[] rfl (by (try simp only [List.map_toArray, List.map_cons, List.map_nil]); first | done | rfl) ?_; refine (awake09_calls _).mono ?_; rintro e wa ⟨rfl, hb⟩; refine ⟨_, rfl, ?_⟩; replace HC_ws := Aside0.mk (Kd.C_below HC_ws.out hb); have HB := Aside0.mk hb; clear hb))
      | ((with_reducible refine gate_callee (f := 32) rfl ?_); (refine goesL_ (some 24) rfl rfl Try.func32 (by kernel_rfl) rfl #[.slice A ws.length c, .bool true] rfl (by (try simp only [List.map_toArray, List.map_cons, List.map_nil]); first | done | rfl) ?_; refine (stanzalaw09_few.calls 100 A c ws true (fewL true ws) _ HC_ws.out HL_ws.out (few_eq true ws)).mono ?_; rintro e w2 ⟨v, rfl, hr, hb⟩; refine ⟨_, rfl, ?_⟩; generalize hnm : fewL true ws = D at hr; have HE_D := Aside0.mk hnm; obtain ⟨AD, cD, hv_, hl_, hc_⟩ := Kd.R_reads hr; subst hv_; have HL_D := Aside0.mk hl_; have HC_D := Aside0.mk hc_; replace HB := Aside0.mk (below_step HB.out hb); clear hb hr hl_ hc_ hnm)))
    go_cut [9, 10] (fun v9 v10 wc => wc = w2 ∧ v9 = .int .i64 x ∧ v10 = .int .i64 y)
    case first =>
      go_wp2_with fail
      go_meet
      case rel => exact ⟨rfl, by rw [HX.out], by rw [HY.out]⟩
    case rest =>
      obtain ⟨rfl, rfl, rfl⟩ := hcut
      clear HX HY
      have HWD_D : Aside0 (Tr.Word D) := ⟨by rw [← HE_D.out]; exact HW32.out⟩
      have HDL : Aside0 (D.length ≤ 80) := ⟨by rw [← HE_D.out]; exact fewL_len true ws⟩
      by_cases hc : codeOf s = 0
      · have HCO := Aside0.mk hc
        clear hc
        go_upto_region 7 with fail
        go_cut [11, 12] (fun v1 v2 wc => ∃ b La Lc bt base Wa Wc g2, v1 = .pointer (some ⟨b, 0, none⟩) ∧ v2 = .pointer (some ⟨g2, 0, none⟩) ∧ Aside0 (HyphAt wc b lowL (Tr.make ((patsOf s).map Tr.pq)) (toldOf s) 1 1 La Lc bt base Wa Wc) ∧ Aside0 (wc.heap[g2]? = some (.cells #[.int .i64 0, .int .i64 0] 46 (0, 0))) ∧ Aside0 (Kd.C (Kd.int .i32) wc AD D.length D) ∧ Aside0 (Below w.heap.size w wc))
        case first =>
          go_wp2_with (first
            | ((with_reducible refine gate_callee (f := 36) rfl ?_); (refine goesL_ (some 35) rfl rfl Try.func36 (by kernel_rfl) rfl #[] rfl (by (try simp only [List.map_toArray, List.map_cons, List.map_nil]); first | done | rfl) ?_; refine (stanzalaw09_low.calls lowL _ rfl).mono ?_; rintro e wa ⟨v, rfl, hr, hb⟩; refine ⟨_, rfl, ?_⟩; obtain ⟨Al, cl, hv_, hl_, hc_⟩ := Kd.R_reads hr; subst hv_; have HLl := Aside0.mk hl_; have HLc := Aside0.mk hc_; replace HB := Aside0.mk (below_step HB.out hb); replace HC_D := Aside0.mk (Kd.C_below HC_D.out hb); clear hb hr hl_ hc_))
            | ((with_reducible refine gate_callee (f := 26) rfl ?_); (refine goesL_ (some 36) rfl rfl Try.func26 (by kernel_rfl) rfl #[.string s, .slice Al lowL.length cl, .int .i64 1, .int .i64 1] rfl (by (try simp only [List.map_toArray, List.map_cons, List.map_nil]); first | done | rfl) ?_; refine (newC s Al cl lowL 1 1 _ HLc.out HLl.out (by decide) low_check' (by decide) (by decide) HCO.out).mono ?_; rintro e wb ⟨b, La, Lc, bt, base, Wa, Wc, rfl, hH, hb⟩; refine ⟨_, rfl, ?_⟩; have HH := Aside0.mk hH; replace HB := Aside0.mk (below_step HB.out hb); replace HC_D := Aside0.mk (Kd.C_below HC_D.out hb); clear hb hH))
            | ((with_reducible refine gate_dst (N := 12) rfl ?_); refine box_event ?hg (N := 12) ?hd (cs := #[.int .i64 0, .int .i64 0]) (t := 46) ?hr ?_; (case hd => rfl); (case hg => rfl); (case hr => first | (go_simp; done) | (go_simp; rfl)); intro gx hg wc1 hbox hb; have GE := Aside0.mk (by rw [hg]; exact below_size HB.out : w.heap.size ≤ gx); have GH := Aside0.mk (Nat.le_of_eq hg.symm : wb.heap.size ≤ gx); have BKx := Aside0.mk hbox; have HBb := Aside0.mk hb; replace HB := Aside0.mk (below_step HB.out hb); have hcz0 : wc1.cell? ⟨gx, 0, none⟩ = some (.int .i64 0) := (blk_cell hbox 0).trans rfl; have hcz1 : wc1.cell? ⟨gx, 1, none⟩ = some (.int .i64 0) := (blk_cell hbox 1).trans rfl; have hfz0 := blk_frozen hbox 0; have hfz1 := blk_frozen hbox 1; clear hb hbox hg))
          go_meet
          case rel =>
            refine ⟨b, La, Lc, bt, base, Wa, Wc, gx, rfl, rfl, ⟨HH.out.below (below_set (below_set HBb.out GH.out) GH.out)⟩, ⟨?_⟩, ⟨Kd.C_below HC_D.out (below_set (below_set HBb.out GH.out) GH.out)⟩, ⟨below_set (below_set HB.out GE.out) GE.out⟩⟩
            exact blk_put (cs := #[.int .i64 0, .int .i64 0]) (blk_put (cs := #[.int .i64 0, .int .i64 0]) BKx.out 0 _ rfl) 1 _ rfl
        case rest =>
          obtain ⟨b1, La1, Lc1, bt1, base1, Wa1, Wc1, g2, rfl, rfl, HH1, BK2, HC_D', HB'⟩ := hcut
          clear HB HC_D
          have HB := HB'
          have HC_D := HC_D'
          clear HB' HC_D'
          rename World => wz
          go_upto_region 8 with fail
          go_cut [13, 14] (fun v3 v4 wc => ∃ b La Lc bt base Wa Wc g4, v3 = .pointer (some ⟨b, 0, none⟩) ∧ v4 = .pointer (some ⟨g4, 0, none⟩) ∧ Aside0 (HyphAt wc b1 lowL (Tr.make ((patsOf s).map Tr.pq)) (toldOf s) 1 1 La1 Lc1 bt1 base1 Wa1 Wc1) ∧ Aside0 (HyphAt wc b lowL (Tr.make ((patsOf s).map Tr.pq)) (toldOf s) x y La Lc bt base Wa Wc) ∧ Aside0 (wc.heap[g2]? = some (.cells #[.int .i64 0, .int .i64 0] 46 (0, 0))) ∧ Aside0 (wc.heap[g4]? = some (.cells #[.int .i64 0, .int .i64 0] 46 (0, 0))) ∧ Aside0 (Kd.C (Kd.int .i32) wc AD D.length D) ∧ Aside0 (Below w.heap.size w wc))
          case first =>
            go_wp2_with (first
              | ((with_reducible refine gate_callee (f := 36) rfl ?_); (refine goesL_ (some 41) rfl rfl Try.func36 (by kernel_rfl) rfl #[] rfl (by (try simp only [List.map_toArray, List.map_cons, List.map_nil]); first | done | rfl) ?_; refine (stanzalaw09_low.calls lowL _ rfl).mono ?_; rintro e wa ⟨v, rfl, hr, hb⟩; refine ⟨_, rfl, ?_⟩; obtain ⟨Al, cl, hv_, hl_, hc_⟩ := Kd.R_reads hr; subst hv_; have HLl := Aside0.mk hl_; have HLc := Aside0.mk hc_; replace HB := Aside0.mk (below_step HB.out hb); replace HC_D := Aside0.mk (Kd.C_below HC_D.out hb); replace HH1 := Aside0.mk (HH1.out.below hb); replace BK2 := Aside0.mk (blk_below BK2.out hb); clear hb hr hl_ hc_))
              | ((with_reducible refine gate_callee (f := 26) rfl ?_); (refine goesL_ (some 44) rfl rfl Try.func26 (by kernel_rfl) rfl #[.string s, .slice Al lowL.length cl, .int .i64 x, .int .i64 y] rfl (by (try simp only [List.map_toArray, List.map_cons, List.map_nil]); first | done | rfl) ?_; refine (newC s Al cl lowL x y _ HLc.out HLl.out (by decide) low_check' bx by_ HCO.out).mono ?_; rintro e wb ⟨b, La, Lc, bt, base, Wa, Wc, rfl, hH, hb⟩; refine ⟨_, rfl, ?_⟩; have HH := Aside0.mk hH; replace HB := Aside0.mk (below_step HB.out hb); replace HC_D := Aside0.mk (Kd.C_below HC_D.out hb); replace HH1 := Aside0.mk (HH1.out.below hb); replace BK2 := Aside0.mk (blk_below BK2.out hb); clear hb hH))
              | ((with_reducible refine gate_dst (N := 14) rfl ?_); refine box_event ?hg (N := 14) ?hd (cs := #[.int .i64 0, .int .i64 0]) (t := 46) ?hr ?_; (case hd => rfl); (case hg => rfl); (case hr => first | (go_simp; done) | (go_simp; rfl)); intro gx hg wc1 hbox hb; have GE := Aside0.mk (by rw [hg]; exact below_size HB.out : w.heap.size ≤ gx); have GH := Aside0.mk (Nat.le_of_eq hg.symm : wb.heap.size ≤ gx); have BKx := Aside0.mk hbox; have HBb := Aside0.mk hb; replace HB := Aside0.mk (below_step HB.out hb); have hcz0 : wc1.cell? ⟨gx, 0, none⟩ = some (.int .i64 0) := (blk_cell hbox 0).trans rfl; have hcz1 : wc1.cell? ⟨gx, 1, none⟩ = some (.int .i64 0) := (blk_cell hbox 1).trans rfl; have hfz0 := blk_frozen hbox 0; have hfz1 := blk_frozen hbox 1; clear hb hbox hg))
            go_meet
            case rel =>
              refine ⟨b, La, Lc, bt, base, Wa, Wc, gx, rfl, rfl, ⟨HH1.out.below (below_set (below_set HBb.out GH.out) GH.out)⟩, ⟨HH.out.below (below_set (below_set HBb.out GH.out) GH.out)⟩, ⟨blk_below BK2.out (below_set (below_set HBb.out GH.out) GH.out)⟩, ⟨?_⟩, ⟨Kd.C_below HC_D.out (below_set (below_set HBb.out GH.out) GH.out)⟩, ⟨below_set (below_set HB.out GE.out) GE.out⟩⟩
              exact blk_put (cs := #[.int .i64 0, .int .i64 0]) (blk_put (cs := #[.int .i64 0, .int .i64 0]) BKx.out 0 _ rfl) 1 _ rfl
          case rest =>
            obtain ⟨b2, La2, Lc2, bt2, base2, Wa2, Wc2, g4, rfl, rfl, HH1', HH2, BK2', BK4, HC_D', HB'⟩ := hcut
            clear HB HC_D HH1 BK2
            rename World => wy
            have q2 : wy.cell? ⟨g2, 0, none⟩ = some (.int .i64 0) := (blk_cell BK2'.out 0).trans rfl
            have q4 : wy.cell? ⟨g4, 0, none⟩ = some (.int .i64 0) := (blk_cell BK4.out 0).trans rfl
            go_upto_region 11 with fail
            clear q2 q4 BK2' BK4
            have HB := HB'
            have HC_D := HC_D'
            have HH1 := HH1'
            clear HB' HC_D' HH1'
            obtain ⟨n1, hn1⟩ : ∃ n1 : Nat, D.length + 1 = n1 := ⟨_, rfl⟩
            have HN := Aside0.mk hn1
            clear hn1
            obtain ⟨V, hV⟩ : ∃ V, V = wordVals (patsOf s) (toldOf s) D := ⟨_, rfl⟩
            have HV := Aside0.mk hV
            clear hV
            go_cut [15, 16] (fun v5 v6 wc => ∃ A5 c5 A6 c6, v5 = .slice A5 n1 c5 ∧ v6 = .slice A6 n1 c6 ∧ Aside0 (Kd.C Kd.bool wc A5 n1 (pts V D.length 1 1)) ∧ Aside0 (Kd.C Kd.bool wc A6 n1 (pts V D.length x y)) ∧ Aside0 (Below w.heap.size w wc))
            case first =>
              go_wp2_with (first
                | ((with_reducible refine gate_callee (f := 33) rfl ?_); (refine goesL_ (some 60) rfl rfl Try.func33 (by kernel_rfl) rfl #[.pointer (some ⟨b1, 0, none⟩), .slice AD D.length cD] rfl (by (try simp only [List.map_toArray, List.map_cons, List.map_nil]); first | done | rfl) ?_; refine (word_calls b1 lowL (patsOf s) (toldOf s) 1 1 La1 Lc1 bt1 base1 Wa1 Wc1 AD cD D _ HH1.out HC_D.out HL_D.out (Dec.parseOf_fit s) HWD_D.out (by decide) (by decide) (Dec.parseOf_told s)).mono ?_; rintro e wa ⟨v, rfl, hr, hb⟩; refine ⟨_, rfl, ?_⟩; rw [← HV.out] at hr; obtain ⟨A5, c5, hv_, hl_, hc_⟩ := Kd.R_reads hr; rw [pts_length, HN.out] at hv_ hl_ hc_; subst hv_; have HP5 := Aside0.mk hc_; clear hl_ hc_; replace HH2 := Aside0.mk (HH2.out.below hb); replace HB := Aside0.mk (below_step HB.out hb); replace HC_D := Aside0.mk (Kd.C_below HC_D.out hb); clear hb hr))
                | ((with_reducible refine gate_callee (f := 33) rfl ?_); (refine goesL_ (some 63) rfl rfl Try.func33 (by kernel_rfl) rfl #[.pointer (some ⟨b2, 0, none⟩), .slice AD D.length cD] rfl (by (try simp only [List.map_toArray, List.map_cons, List.map_nil]); first | done | rfl) ?_; refine (word_calls b2 lowL (patsOf s) (toldOf s) x y La2 Lc2 bt2 base2 Wa2 Wc2 AD cD D _ HH2.out HC_D.out HL_D.out (Dec.parseOf_fit s) HWD_D.out bx by_ (Dec.parseOf_told s)).mono ?_; rintro e wa ⟨v, rfl, hr, hb⟩; refine ⟨_, rfl, ?_⟩; rw [← HV.out] at hr; obtain ⟨A6, c6, hv_, hl_, hc_⟩ := Kd.R_reads hr; rw [pts_length, HN.out] at hv_ hl_ hc_; subst hv_; have HP6 := Aside0.mk hc_; clear hl_ hc_; replace HP5 := Aside0.mk (Kd.C_below HP5.out hb); replace HB := Aside0.mk (below_step HB.out hb); clear hb hr)))
              go_meet
              case rel => exact ⟨A5, c5, A6, c6, rfl, rfl, HP5, HP6, HB⟩
            case rest =>
              obtain ⟨A5, c5, A6, c6, rfl, rfl, HP5, HP6, HB'⟩ := hcut
              clear HB HC_D HH1 HH2
              have hd0 : D.length ≤ 80 := HDL.out
              have hn0 : n1 ≤ 81 := by have := HN.out; omega
              rename World => wx
              go_wp2_with fail
              go_loopg [71] n1 (fun g v71 w' => ∃ j : Nat, v71 = .int .i64 j ∧ Aside0 (g + j = n1) ∧ Aside0 (Kd.C Kd.bool w' A5 n1 (pts V D.length 1 1)) ∧ Aside0 (Kd.C Kd.bool w' A6 n1 (pts V D.length x y)) ∧ Aside0 (Below w.heap.size w w'))
              case atStart => exact ⟨0, rfl, ⟨rfl⟩, HP5, HP6, HB'⟩
              case round =>
                obtain ⟨j, rfl, HG, HQ5, HQ6, HB⟩ := hrel
                by_cases hj : j < n1
                · have p1 : (0 : Int) ≤ (j : Int) := by omega
                  have q1 : (j : Int) < (n1 : Int) := by omega
                  obtain ⟨ad5, e5, x5⟩ := Kd.at_bool HQ5.out (j : Int) p1 q1
                  subst e5
                  obtain ⟨ad6, e6, x6⟩ := Kd.at_bool HQ6.out (j : Int) p1 q1
                  subst e6
                  rw [pts_rd V D.length 1 1 j (by have := HN.out; omega), Int.toNat_natCast] at x5
                  rw [pts_rd V D.length x y j (by have := HN.out; omega), pt_least V D.length x y bx.1 by_.1, Int.toNat_natCast] at x6
                  generalize ptAt V D.length 1 1 j = pa at x5 x6
                  go_upto_region 17 with fail
                  go_cut [95] (fun v95 wc => v95 = .bool false ∧ Aside0 (Kd.C Kd.bool wc (some ad5) n1 (pts V D.length 1 1)) ∧ Aside0 (Kd.C Kd.bool wc (some ad6) n1 (pts V D.length x y)) ∧ Aside0 (Below w.heap.size w wc))
                  case first =>
                    cases pa with
                    | false =>
                      replace x6 : wr.cell? (ad6.add j) = some (.bool false) := x6
                      go_region
                      all_goals go_wp2_with fail
                      all_goals go_meet
                      all_goals exact ⟨rfl, ⟨Kd.C_drew HQ5.out⟩, ⟨Kd.C_drew HQ6.out⟩, ⟨below_drew HB.out⟩⟩
                    | true =>
                      by_cases h1 : x ≤ (j : Int)
                      · by_cases h2 : y ≤ (D.length : Int) - (j : Int)
                        · rw [decide_eq_true h1, decide_eq_true h2] at x6
                          replace x6 : wr.cell? (ad6.add j) = some (.bool true) := x6
                          go_region
                          all_goals go_wp2_with fail
                          all_goals go_meet
                          all_goals exact ⟨rfl, ⟨Kd.C_drew HQ5.out⟩, ⟨Kd.C_drew HQ6.out⟩, ⟨below_drew HB.out⟩⟩
                        · rw [decide_eq_true h1, decide_eq_false h2] at x6
                          replace x6 : wr.cell? (ad6.add j) = some (.bool false) := x6
                          go_region
                          all_goals go_wp2_with fail
                          all_goals go_meet
                          all_goals exact ⟨rfl, ⟨Kd.C_drew HQ5.out⟩, ⟨Kd.C_drew HQ6.out⟩, ⟨below_drew HB.out⟩⟩
                      · rw [decide_eq_false h1] at x6
                        replace x6 : wr.cell? (ad6.add j) = some (.bool false) := x6
                        go_region
                        all_goals go_wp2_with fail
                        all_goals go_meet
                        all_goals exact ⟨rfl, ⟨Kd.C_drew HQ5.out⟩, ⟨Kd.C_drew HQ6.out⟩, ⟨below_drew HB.out⟩⟩
                  case rest =>
                    obtain ⟨rfl, HR5, HR6, HB2⟩ := hcut
                    go_wp2_with fail
                    go_roundg (gk - 1)
                    case measure => have := HG.out; omega
                    case rel => exact ⟨j + 1, by go_num, ⟨by have := HG.out; omega⟩, HR5, HR6, HB2⟩
                · go_wp2_with fail
                  go_ret
                  exact ⟨rfl, HB.out⟩
      · obtain ⟨cd, hcd⟩ : ∃ cd, codeOf s = cd := ⟨_, rfl⟩
        obtain ⟨ca, hca⟩ : ∃ ca, atOf s = ca := ⟨_, rfl⟩
        have HCO := Aside0.mk hc
        have HCD := Aside0.mk hcd
        have HAT := Aside0.mk hca
        have hne : cd ≠ 0 := by rw [← hcd]; exact hc
        clear hc hcd hca HC_D
        go_upto_region 7 with fail
        go_cut [11, 12] (fun v1 v2 wc => ∃ g2, v1 = .pointer none ∧ v2 = .pointer (some ⟨g2, 0, none⟩) ∧ Aside0 (wc.heap[g2]? = some (.cells #[.int .i64 cd, .int .i64 ca] 46 (0, 0))) ∧ Aside0 (Below w.heap.size w wc))
        case first =>
          go_wp2_with (first
            | ((with_reducible refine gate_callee (f := 36) rfl ?_); (refine goesL_ (some 35) rfl rfl Try.func36 (by kernel_rfl) rfl #[] rfl (by (try simp only [List.map_toArray, List.map_cons, List.map_nil]); first | done | rfl) ?_; refine (stanzalaw09_low.calls lowL _ rfl).mono ?_; rintro e wa ⟨v, rfl, hr, hb⟩; refine ⟨_, rfl, ?_⟩; obtain ⟨Al, cl, hv_, hl_, hc_⟩ := Kd.R_reads hr; subst hv_; have HLl := Aside0.mk hl_; have HLc := Aside0.mk hc_; replace HB := Aside0.mk (below_step HB.out hb); clear hb hr hl_ hc_))
            | ((with_reducible refine gate_callee (f := 26) rfl ?_); (refine goesL_ (some 36) rfl rfl Try.func26 (by kernel_rfl) rfl #[.string s, .slice Al lowL.length cl, .int .i64 1, .int .i64 1] rfl (by (try simp only [List.map_toArray, List.map_cons, List.map_nil]); first | done | rfl) ?_; refine (newB s Al cl lowL 1 1 _ HLc.out HLl.out low_check' (by decide) (by decide) HCO.out).mono ?_; rintro e wb ⟨rfl, hb⟩; refine ⟨_, rfl, ?_⟩; rw [HCD.out, HAT.out]; replace HB := Aside0.mk (below_step HB.out hb); clear hb))
            | ((with_reducible refine gate_dst (N := 12) rfl ?_); refine box_event ?hg (N := 12) ?hd (cs := #[.int .i64 0, .int .i64 0]) (t := 46) ?hr ?_; (case hd => rfl); (case hg => rfl); (case hr => first | (go_simp; done) | (go_simp; rfl)); intro gx hg wc1 hbox hb; have GE := Aside0.mk (by rw [hg]; exact below_size HB.out : w.heap.size ≤ gx); have GH := Aside0.mk (Nat.le_of_eq hg.symm : wb.heap.size ≤ gx); have BKx := Aside0.mk hbox; have HBb := Aside0.mk hb; replace HB := Aside0.mk (below_step HB.out hb); have hcz0 : wc1.cell? ⟨gx, 0, none⟩ = some (.int .i64 0) := (blk_cell hbox 0).trans rfl; have hcz1 : wc1.cell? ⟨gx, 1, none⟩ = some (.int .i64 0) := (blk_cell hbox 1).trans rfl; have hfz0 := blk_frozen hbox 0; have hfz1 := blk_frozen hbox 1; clear hb hbox hg))
          go_meet
          case rel => exact ⟨gx, rfl, rfl, ⟨blk_put (cs := #[.int .i64 cd, .int .i64 0]) (blk_put (cs := #[.int .i64 0, .int .i64 0]) BKx.out 0 _ rfl) 1 _ rfl⟩, ⟨below_set (below_set HB.out GE.out) GE.out⟩⟩
        case rest =>
          obtain ⟨g2, rfl, rfl, BK2, HB'⟩ := hcut
          clear HB
          have HB := HB'
          clear HB'
          rename World => wz
          go_upto_region 8 with fail
          go_cut [13, 14] (fun v3 v4 wc => ∃ g4, v3 = .pointer none ∧ v4 = .pointer (some ⟨g4, 0, none⟩) ∧ Aside0 (wc.heap[g2]? = some (.cells #[.int .i64 cd, .int .i64 ca] 46 (0, 0))) ∧ Aside0 (wc.heap[g4]? = some (.cells #[.int .i64 cd, .int .i64 ca] 46 (0, 0))) ∧ Aside0 (Below w.heap.size w wc))
          case first =>
            go_wp2_with (first
              | ((with_reducible refine gate_callee (f := 36) rfl ?_); (refine goesL_ (some 41) rfl rfl Try.func36 (by kernel_rfl) rfl #[] rfl (by (try simp only [List.map_toArray, List.map_cons, List.map_nil]); first | done | rfl) ?_; refine (stanzalaw09_low.calls lowL _ rfl).mono ?_; rintro e wa ⟨v, rfl, hr, hb⟩; refine ⟨_, rfl, ?_⟩; obtain ⟨Al, cl, hv_, hl_, hc_⟩ := Kd.R_reads hr; subst hv_; have HLl := Aside0.mk hl_; have HLc := Aside0.mk hc_; replace HB := Aside0.mk (below_step HB.out hb); replace BK2 := Aside0.mk (blk_below BK2.out hb); clear hb hr hl_ hc_))
              | ((with_reducible refine gate_callee (f := 26) rfl ?_); (refine goesL_ (some 44) rfl rfl Try.func26 (by kernel_rfl) rfl #[.string s, .slice Al lowL.length cl, .int .i64 x, .int .i64 y] rfl (by (try simp only [List.map_toArray, List.map_cons, List.map_nil]); first | done | rfl) ?_; refine (newB s Al cl lowL x y _ HLc.out HLl.out low_check' bx by_ HCO.out).mono ?_; rintro e wb ⟨rfl, hb⟩; refine ⟨_, rfl, ?_⟩; rw [HCD.out, HAT.out]; replace HB := Aside0.mk (below_step HB.out hb); replace BK2 := Aside0.mk (blk_below BK2.out hb); clear hb))
              | ((with_reducible refine gate_dst (N := 14) rfl ?_); refine box_event ?hg (N := 14) ?hd (cs := #[.int .i64 0, .int .i64 0]) (t := 46) ?hr ?_; (case hd => rfl); (case hg => rfl); (case hr => first | (go_simp; done) | (go_simp; rfl)); intro gx hg wc1 hbox hb; have GE := Aside0.mk (by rw [hg]; exact below_size HB.out : w.heap.size ≤ gx); have GH := Aside0.mk (Nat.le_of_eq hg.symm : wb.heap.size ≤ gx); have BKx := Aside0.mk hbox; have HBb := Aside0.mk hb; replace HB := Aside0.mk (below_step HB.out hb); have hcz0 : wc1.cell? ⟨gx, 0, none⟩ = some (.int .i64 0) := (blk_cell hbox 0).trans rfl; have hcz1 : wc1.cell? ⟨gx, 1, none⟩ = some (.int .i64 0) := (blk_cell hbox 1).trans rfl; have hfz0 := blk_frozen hbox 0; have hfz1 := blk_frozen hbox 1; clear hb hbox hg))
            go_meet
            case rel => exact ⟨gx, rfl, rfl, ⟨blk_below BK2.out (below_set (below_set HBb.out GH.out) GH.out)⟩, ⟨blk_put (cs := #[.int .i64 cd, .int .i64 0]) (blk_put (cs := #[.int .i64 0, .int .i64 0]) BKx.out 0 _ rfl) 1 _ rfl⟩, ⟨below_set (below_set HB.out GE.out) GE.out⟩⟩
          case rest =>
            obtain ⟨g4, rfl, rfl, BK2', BK4, HB'⟩ := hcut
            clear HB BK2
            rename World => wy
            have q20 : wy.cell? ⟨g2, 0, none⟩ = some (.int .i64 cd) := (blk_cell BK2'.out 0).trans rfl
            have q21 : wy.cell? ⟨g2, 1, none⟩ = some (.int .i64 ca) := (blk_cell BK2'.out 1).trans rfl
            have q40 : wy.cell? ⟨g4, 0, none⟩ = some (.int .i64 cd) := (blk_cell BK4.out 0).trans rfl
            have q41 : wy.cell? ⟨g4, 1, none⟩ = some (.int .i64 ca) := (blk_cell BK4.out 1).trans rfl
            go_wp2_with fail
            go_ret
            exact ⟨rfl, HB'.out⟩
  · have hsz' : 2000 < s.size := by omega
    clear hsz
    go_enter Try.func13, Try.ntmps13
    go_wp2_with (first
      | ((with_reducible refine gate_callee (f := 24) rfl ?_); (refine goesL_ (some 18) rfl rfl Try.func24 (by kernel_rfl) rfl #[] rfl (by (try simp only [List.map_toArray, List.map_cons, List.map_nil]); first | done | rfl) ?_; refine (awake09_calls _).mono ?_; rintro e wa ⟨rfl, hb⟩; refine ⟨_, rfl, ?_⟩; have HB := Aside0.mk hb; clear hb)))
    go_ret
    exact ⟨rfl, HB.out⟩
end Go.Proofs.Ytoefjhdcipgacaa.Hy
end
