/-
  Part 20 of what the law HyphChecks rests on: contracts of the functions that it calls, and plain laws of what they compute.
-/
import Derived.Deep.RegionWith
import Derived.BigRegion
import Derived.Test.YtoefjhdcipgacaaHC6
import Derived.Test.YtoefjhdcipgacaaHC9
import Derived.Test.YtoefjhdcipgacaaHC15
import Derived.Test.YtoefjhdcipgacaaHC16
import Derived.Test.YtoefjhdcipgacaaHC17
import Derived.Test.YtoefjhdcipgacaaHC18
import Derived.Test.YtoefjhdcipgacaaHC19
section
namespace Go.Proofs.Ytoefjhdcipgacaa.Hy
open Go.RowKit Go.Proofs.YtoefjhdcipgacaaW.PrintWords Go.Proofs.YtoefjhdcipgacaaW.PrintLast Go.Proofs.YtoefjhdcipgacaaW.PrintMore
open Go.Proofs.Ytoefjhdcipgacaa.PA
attribute [local go_sem] max2_int min2_int max_two min_two
set_option maxHeartbeats 4000000 in
set_option maxRecDepth 100000 in
theorem new_bad1 (k : Nat) (s : ByteArray) (A : Option Addr) (c : Nat) (ls : List S63) (left right : Int) (w : World) (hl : Kd.C k63 w A ls.length ls) (hlc : ls.length ≤ c) (hck : hyph_Check.f k ls = some false) :
    Calls Try.prog 26 #[.string s, .slice A ls.length c, .int .i64 left, .int .i64 right] w fun e w' => e = .returned (.tuple #[.pointer none, .agg #[.int .i64 10, .int .i64 0]]) ∧ Below w.heap.size w w' := by
  have HL := Aside0.mk hl
  have HLc := Aside0.mk hlc
  have HK := Aside0.mk hck
  clear hl hlc hck
  go_enter Try.func26, Try.ntmps26
  go_wp2_with (first
    | ((with_reducible refine gate_dst (N := 9) rfl ?_); refine box_event ?hg (N := 9) ?hd (cs := #[.int .i64 0, .int .i64 0]) (t := 46) ?hr ?_; (case hd => rfl); (case hg => rfl); (case hr => first | (go_simp; done) | (go_simp; rfl)); intro g9 hg w1 hbox hb; have HB := Aside0.mk hb; have BK9 := Aside0.mk hbox; have GE9 := Aside0.mk (Nat.le_of_eq hg.symm : w.heap.size ≤ g9); replace HL := Aside0.mk (Kd.C_below HL.out hb); clear hb hbox hg)
    | (go_at_call 34; refine (hyph_Check.calls k A c ls false _ HL.out HLc.out HK.out).mono ?_; rintro e w2 ⟨rfl, hb⟩; replace BK9 := Aside0.mk (blk_below BK9.out hb); replace HB := Aside0.mk (below_step HB.out hb); have hcz0 : w2.cell? ⟨g9, 0, none⟩ = some (.int .i64 0) := (blk_cell BK9.out 0).trans rfl; have hcz1 : w2.cell? ⟨g9, 1, none⟩ = some (.int .i64 0) := (blk_cell BK9.out 1).trans rfl; have hfz0 := blk_frozen BK9.out 0; have hfz1 := blk_frozen BK9.out 1; clear hb))
  refine bodyPost_ret (results_tc rfl _ _ g9 46 #[.int .i64 10, .int .i64 0] (0, 0) _ rfl (by refine blk_put (cs := #[.int .i64 10, .int .i64 0]) ?_ 1 _ rfl; refine blk_put (cs := #[.int .i64 0, .int .i64 0]) ?_ 0 _ rfl; exact BK9.out) Try.underlying46 rfl (by kernel_rfl)) rfl ?_
  exact ⟨rfl, below_set (below_set HB.out GE9.out) GE9.out⟩
set_option maxHeartbeats 8000000 in
set_option maxRecDepth 100000 in
theorem new_bad2 (k : Nat) (s : ByteArray) (A : Option Addr) (c : Nat) (ls : List S63) (left right : Int) (w : World) (hl : Kd.C k63 w A ls.length ls) (hlc : ls.length ≤ c) (hck : hyph_Check.f k ls = some true)
    (hbad : left < 1 ∨ right < 1 ∨ 24 < left ∨ 24 < right) :
    Calls Try.prog 26 #[.string s, .slice A ls.length c, .int .i64 left, .int .i64 right] w fun e w' => e = .returned (.tuple #[.pointer none, .agg #[.int .i64 40, .int .i64 0]]) ∧ Below w.heap.size w w' := by
  have HL := Aside0.mk hl
  have HLc := Aside0.mk hlc
  have HK := Aside0.mk hck
  clear hl hlc hck
  have h4 : left < 1 ∨ (1 ≤ left ∧ right < 1) ∨ (1 ≤ left ∧ 1 ≤ right ∧ 24 < left) ∨ (1 ≤ left ∧ 1 ≤ right ∧ left ≤ 24 ∧ 24 < right) := by omega
  clear hbad
  rcases h4 with h1 | ⟨h1, h2⟩ | ⟨h1, h2, h3⟩ | ⟨h1, h2, h3, h4⟩
  all_goals
    go_enter Try.func26, Try.ntmps26
    go_wp2_with (first
    | ((with_reducible refine gate_dst (N := 9) rfl ?_); refine box_event ?hg (N := 9) ?hd (cs := #[.int .i64 0, .int .i64 0]) (t := 46) ?hr ?_; (case hd => rfl); (case hg => rfl); (case hr => first | (go_simp; done) | (go_simp; rfl)); intro g9 hg w1 hbox hb; have HB := Aside0.mk hb; have BK9 := Aside0.mk hbox; have GE9 := Aside0.mk (Nat.le_of_eq hg.symm : w.heap.size ≤ g9); have LT9 := Aside0.mk (blk_lt hbox); replace HL := Aside0.mk (Kd.C_below HL.out hb); clear hb hbox hg)
    | (go_at_call 34; refine (hyph_Check.calls k A c ls true _ HL.out HLc.out HK.out).mono ?_; rintro e w2 ⟨rfl, hb⟩; replace BK9 := Aside0.mk (blk_below BK9.out hb); replace HB := Aside0.mk (below_step HB.out hb); replace HL := Aside0.mk (Kd.C_below HL.out hb); have hcz0 : w2.cell? ⟨g9, 0, none⟩ = some (.int .i64 0) := (blk_cell BK9.out 0).trans rfl; have hcz1 : w2.cell? ⟨g9, 1, none⟩ = some (.int .i64 0) := (blk_cell BK9.out 1).trans rfl; have hfz0 := blk_frozen BK9.out 0; have hfz1 := blk_frozen BK9.out 1; clear hb))
    refine bodyPost_ret (results_tc rfl _ _ g9 46 #[.int .i64 40, .int .i64 0] (0, 0) _ rfl (by refine blk_put (cs := #[.int .i64 40, .int .i64 0]) ?_ 1 _ rfl; refine blk_put (cs := #[.int .i64 0, .int .i64 0]) ?_ 0 _ rfl; exact BK9.out) Try.underlying46 rfl (by kernel_rfl)) rfl ?_
    exact ⟨rfl, below_set (below_set HB.out GE9.out) GE9.out⟩
set_option maxHeartbeats 8000000 in
set_option maxRecDepth 100000 in
theorem new_bad3 (k : Nat) (s : ByteArray) (A : Option Addr) (c : Nat) (ls : List S63) (left right : Int) (P W : List S39) (code at_ : Int) (w : World) (hl : Kd.C k63 w A ls.length ls) (hlc : ls.length ≤ c) (hck : hyph_Check.f k ls = some true)
    (h1 : 1 ≤ left) (h2 : 1 ≤ right) (h3 : left ≤ 24) (h4 : right ≤ 24) (hpar : pats_Parse.f k s = some (P, W, code, at_)) (hne : code ≠ 0) :
    Calls Try.prog 26 #[.string s, .slice A ls.length c, .int .i64 left, .int .i64 right] w fun e w' => e = .returned (.tuple #[.pointer none, .agg #[.int .i64 code, .int .i64 at_]]) ∧ Below w.heap.size w w' := by
  have HL := Aside0.mk hl
  have HLc := Aside0.mk hlc
  have HK := Aside0.mk hck
  have HP := Aside0.mk hpar
  clear hl hlc hck hpar
  go_enter Try.func26, Try.ntmps26
  go_upto_region 5 with (first
    | ((with_reducible refine gate_dst (N := 9) rfl ?_); refine box_event ?hg (N := 9) ?hd (cs := #[.int .i64 0, .int .i64 0]) (t := 46) ?hr ?_; (case hd => rfl); (case hg => rfl); (case hr => first | (go_simp; done) | (go_simp; rfl)); intro g9 hg w1 hbox hb; have HB := Aside0.mk hb; have BK9 := Aside0.mk hbox; have GE9 := Aside0.mk (Nat.le_of_eq hg.symm : w.heap.size ≤ g9); clear hb hbox hg)
    | (go_at_call 34; refine (hyph_Check.calls k A c ls true _ (Kd.C_below HL.out HB.out) HLc.out HK.out).mono ?_; rintro e w2 ⟨rfl, hb⟩; replace BK9 := Aside0.mk (blk_below BK9.out hb); replace HB := Aside0.mk (below_step HB.out hb); clear hb))
  go_cut [10, 11] (fun v10 v11 wc => ∃ g11, v11 = .pointer (some ⟨g11, 0, none⟩) ∧ Aside0 (wc.heap[g11]? = some (.cells #[.int .i64 code, .int .i64 at_] 46 (0, 0))) ∧ Aside0 (wc.heap[g9]? = some (.cells #[.int .i64 0, .int .i64 0] 46 (0, 0))) ∧ Aside0 (Below w.heap.size w wc))
  case first =>
    go_wp2_with (first
    | (go_at_call 41; refine (pats_Parse.calls k s P W code at_ _ HP.out).mono ?_; rintro e w3 ⟨v0, v1, rfl, hs0, hs1, hb⟩; obtain ⟨Ap, cp, rfl⟩ := Kd.S_slice hs0; obtain ⟨Aw, cw, rfl⟩ := Kd.S_slice hs1; have HS0 := Aside0.mk (Kd.S_lower (Kd.S_mono (ok' := fun _ => True) hs0 (fun _ _ => trivial)) (below_size HB.out)); have HS1 := Aside0.mk (Kd.S_lower (Kd.S_mono (ok' := fun _ => True) hs1 (fun _ _ => trivial)) (below_size HB.out)); replace BK9 := Aside0.mk (blk_below BK9.out hb); replace HB := Aside0.mk (below_step HB.out hb); clear hb hs0 hs1)
    | ((with_reducible refine gate_dst (N := 10) rfl ?_); refine box_event ?hg (N := 10) ?hd (cs := #[.slice none 0 0, .slice none 0 0]) (t := 50) ?hr ?_; (case hd => rfl); (case hg => rfl); (case hr => first | (go_simp; done) | (go_simp; rfl)); intro g10 hg w4 hbox hb; replace HS0 := Aside0.mk (Kd.S_below HS0.out hb); replace HS1 := Aside0.mk (Kd.S_below HS1.out hb); replace BK9 := Aside0.mk (blk_below BK9.out hb); have BK10 := Aside0.mk hbox; have GE10 := Aside0.mk (by rw [hg]; exact below_size HB.out : w.heap.size ≤ g10); replace HB := Aside0.mk (below_step HB.out hb); clear hb hbox hg)
    | ((with_reducible refine gate_dst (N := 11) rfl ?_); refine box_event ?hg (N := 11) ?hd (cs := #[.int .i64 0, .int .i64 0]) (t := 46) ?hr ?_; (case hd => rfl); (case hg => rfl); (case hr => first | (go_simp; done) | (go_simp; rfl)); intro g11 hg w5 hbox hb; have NB := Aside0.mk (by rw [hg]; exact Nat.ne_of_lt (blk_lt BK9.out) : g9 ≠ g11); replace HS0 := Aside0.mk (Kd.S_below HS0.out hb); replace HS1 := Aside0.mk (Kd.S_below HS1.out hb); replace BK9 := Aside0.mk (blk_below BK9.out hb); replace BK10 := Aside0.mk (blk_below BK10.out hb); have BK11 := Aside0.mk hbox; have GE11 := Aside0.mk (by rw [hg]; exact below_size HB.out : w.heap.size ≤ g11); replace HB := Aside0.mk (below_step HB.out hb); have hcz0 : w5.cell? ⟨g10, 0, none⟩ = some (.slice none 0 0) := (blk_cell BK10.out 0).trans rfl; have hcz1 : w5.cell? ⟨g10, 1, none⟩ = some (.slice none 0 0) := (blk_cell BK10.out 1).trans rfl; have hfz0 := blk_frozen BK10.out 0; have hfz1 := blk_frozen BK10.out 1; have hdz0 : w5.cell? ⟨g11, 0, none⟩ = some (.int .i64 0) := (blk_cell BK11.out 0).trans rfl; have hdz1 : w5.cell? ⟨g11, 1, none⟩ = some (.int .i64 0) := (blk_cell BK11.out 1).trans rfl; have hez0 := blk_frozen BK11.out 0; have hez1 := blk_frozen BK11.out 1; have hnb := blk_ne BK10.out BK11.out (by decide); have hnc := Ne.symm hnb; clear hb hbox hg))
    go_meet
    case rel =>
      refine ⟨g11, rfl, ⟨?_⟩, ⟨?_⟩, ⟨?_⟩⟩
      · refine blk_put (cs := #[.int .i64 code, .int .i64 0]) (blk_put (cs := #[.int .i64 0, .int .i64 0]) (blk_far (blk_far BK11.out hnc _) hnc _) 0 _ rfl) 1 _ rfl
      · refine blk_far (blk_far (blk_far (blk_far BK9.out ?_ _) ?_ _) NB.out _) NB.out _ <;> exact Ne.symm (blk_ne BK10.out BK9.out (by decide))
      · exact below_set (below_set (below_set (below_set HB.out GE10.out) GE10.out) GE11.out) GE11.out
  case rest =>
    obtain ⟨g11, rfl, BK11, BK9', HB'⟩ := hcut
    clear HB BK9
    have HB := HB'
    have BK9 := BK9'
    clear HB' BK9'
    have hdz0 : wc.cell? ⟨g11, 0, none⟩ = some (.int .i64 code) := (blk_cell BK11.out 0).trans rfl
    have hdz1 : wc.cell? ⟨g11, 1, none⟩ = some (.int .i64 at_) := (blk_cell BK11.out 1).trans rfl
    have hcz0 : wc.cell? ⟨g9, 0, none⟩ = some (.int .i64 0) := (blk_cell BK9.out 0).trans rfl
    have hcz1 : wc.cell? ⟨g9, 1, none⟩ = some (.int .i64 0) := (blk_cell BK9.out 1).trans rfl
    have hfz0 := blk_frozen BK9.out 0
    have hfz1 := blk_frozen BK9.out 1
    go_upto_region 7 with fail
    go_region
    all_goals go_wp2_with fail
    refine bodyPost_ret (results_tc rfl _ _ g9 46 #[.int .i64 code, .int .i64 at_] (0, 0) _ rfl (blk_drew (blk_put (cs := #[.int .i64 code, .int .i64 0]) (blk_put (cs := #[.int .i64 0, .int .i64 0]) BK9.out 0 _ rfl) 1 _ rfl)) Try.underlying46 rfl (by kernel_rfl)) rfl ?_
    exact ⟨rfl, below_drew (below_set (below_set HB.out GE9.out) GE9.out)⟩
end Go.Proofs.Ytoefjhdcipgacaa.Hy
end
section
namespace Go.Proofs.Ytoefjhdcipgacaa.Hy
open Go.RowKit Go.Proofs.YtoefjhdcipgacaaW.PrintWords Go.Proofs.YtoefjhdcipgacaaW.PrintLast Go.Proofs.YtoefjhdcipgacaaW.PrintMore
open Go.Proofs.Ytoefjhdcipgacaa.PA
attribute [local go_sem] max2_int min2_int max_two min_two
theorem _root_.Go.Proofs.Ytoefjhdcipgacaa.Tr.TrieAt.set {w : World} {base bt g : Nat} {T : Tr.TM} (h : Tr.TrieAt w base bt T) (hg : g < base) (j : Nat) (u : Value) : Tr.TrieAt (w.setCell ⟨g, j, none⟩ u) base bt T := by
  obtain ⟨bn, cap, K, xs, ms, vs, hK, h⟩ := h
  exact ⟨bn, cap, K, xs, ms, vs, hK, h.move (fun k hk _ => Below.heap_setCell w ⟨g, j, none⟩ u k (by show k ≠ g; omega))⟩
set_option maxHeartbeats 8000000 in
set_option maxRecDepth 100000 in
theorem new_ok (k : Nat) (s : ByteArray) (A : Option Addr) (c : Nat) (ls : List S63) (left right : Int) (P W : List S39) (w : World) (hl : Kd.C k63 w A ls.length ls) (hlc : ls.length ≤ c) (h8 : ls.length ≤ 1000000) (hck : hyph_Check.f k ls = some true)
    (h1 : 1 ≤ left) (h2 : 1 ≤ right) (h3 : left ≤ 24) (h4 : right ≤ 24) (hpar : pats_Parse.f k s = some (P, W, 0, 0)) (hfit : Tr.Fit P) :
    Calls Try.prog 26 #[.string s, .slice A ls.length c, .int .i64 left, .int .i64 right] w fun e w' => ∃ b La Lc bt base Wa Wc, e = .returned (.tuple #[.pointer (some ⟨b, 0, none⟩), .agg #[.int .i64 0, .int .i64 0]]) ∧ HyphAt w' b ls (Tr.make (P.map Tr.pq)) W left right La Lc bt base Wa Wc ∧ Below w.heap.size w w' := by
  have HL := Aside0.mk hl
  have HLc := Aside0.mk hlc
  have HL8 := Aside0.mk h8
  have HK := Aside0.mk hck
  have HP := Aside0.mk hpar
  have HF := Aside0.mk hfit
  clear hl hlc h8 hck hpar hfit
  go_enter Try.func26, Try.ntmps26
  go_upto_region 5 with (first
    | ((with_reducible refine gate_dst (N := 9) rfl ?_); refine box_event ?hg (N := 9) ?hd (cs := #[.int .i64 0, .int .i64 0]) (t := 46) ?hr ?_; (case hd => rfl); (case hg => rfl); (case hr => first | (go_simp; done) | (go_simp; rfl)); intro g9 hg w1 hbox hb; have HB := Aside0.mk hb; have BK9 := Aside0.mk hbox; have GE9 := Aside0.mk (Nat.le_of_eq hg.symm : w.heap.size ≤ g9); clear hb hbox hg)
    | (go_at_call 34; refine (hyph_Check.calls k A c ls true _ (Kd.C_below HL.out HB.out) HLc.out HK.out).mono ?_; rintro e w2 ⟨rfl, hb⟩; replace BK9 := Aside0.mk (blk_below BK9.out hb); replace HB := Aside0.mk (below_step HB.out hb); clear hb))
  go_cut [10, 11] (fun v10 v11 wc => ∃ g10 g11 Ap cp Aw cw, v10 = .pointer (some ⟨g10, 0, none⟩) ∧ v11 = .pointer (some ⟨g11, 0, none⟩) ∧ Aside0 (wc.heap[g10]? = some (.cells #[.slice Ap P.length cp, .slice Aw W.length cw] 50 (0, 0))) ∧ Aside0 (wc.heap[g11]? = some (.cells #[.int .i64 0, .int .i64 0] 46 (0, 0))) ∧ Aside0 (wc.heap[g9]? = some (.cells #[.int .i64 0, .int .i64 0] 46 (0, 0))) ∧ Aside0 (Kd.S k39 39 wc w.heap.size (fun _ => True) (.slice Ap P.length cp) P) ∧ Aside0 (Kd.S k39 39 wc w.heap.size (fun _ => True) (.slice Aw W.length cw) W) ∧ Aside0 (Below w.heap.size w wc))
  case first =>
    go_wp2_with (first
    | (go_at_call 41; refine (pats_Parse.calls k s P W 0 0 _ HP.out).mono ?_; rintro e w3 ⟨v0, v1, rfl, hs0, hs1, hb⟩; obtain ⟨Ap, cp, rfl⟩ := Kd.S_slice hs0; obtain ⟨Aw, cw, rfl⟩ := Kd.S_slice hs1; have HS0 := Aside0.mk (Kd.S_lower (Kd.S_mono (ok' := fun _ => True) hs0 (fun _ _ => trivial)) (below_size HB.out)); have HS1 := Aside0.mk (Kd.S_lower (Kd.S_mono (ok' := fun _ => True) hs1 (fun _ _ => trivial)) (below_size HB.out)); replace BK9 := Aside0.mk (blk_below BK9.out hb); replace HB := Aside0.mk (below_step HB.out hb); clear hb hs0 hs1)
    | ((with_reducible refine gate_dst (N := 10) rfl ?_); refine box_event ?hg (N := 10) ?hd (cs := #[.slice none 0 0, .slice none 0 0]) (t := 50) ?hr ?_; (case hd => rfl); (case hg => rfl); (case hr => first | (go_simp; done) | (go_simp; rfl)); intro g10 hg w4 hbox hb; replace HS0 := Aside0.mk (Kd.S_below HS0.out hb); replace HS1 := Aside0.mk (Kd.S_below HS1.out hb); replace BK9 := Aside0.mk (blk_below BK9.out hb); have BK10 := Aside0.mk hbox; have GE10 := Aside0.mk (by rw [hg]; exact below_size HB.out : w.heap.size ≤ g10); replace HB := Aside0.mk (below_step HB.out hb); clear hb hbox hg)
    | ((with_reducible refine gate_dst (N := 11) rfl ?_); refine box_event ?hg (N := 11) ?hd (cs := #[.int .i64 0, .int .i64 0]) (t := 46) ?hr ?_; (case hd => rfl); (case hg => rfl); (case hr => first | (go_simp; done) | (go_simp; rfl)); intro g11 hg w5 hbox hb; have NB := Aside0.mk (by rw [hg]; exact Nat.ne_of_lt (blk_lt BK9.out) : g9 ≠ g11); replace HS0 := Aside0.mk (Kd.S_below HS0.out hb); replace HS1 := Aside0.mk (Kd.S_below HS1.out hb); replace BK9 := Aside0.mk (blk_below BK9.out hb); replace BK10 := Aside0.mk (blk_below BK10.out hb); have BK11 := Aside0.mk hbox; have GE11 := Aside0.mk (by rw [hg]; exact below_size HB.out : w.heap.size ≤ g11); replace HB := Aside0.mk (below_step HB.out hb); have hcz0 : w5.cell? ⟨g10, 0, none⟩ = some (.slice none 0 0) := (blk_cell BK10.out 0).trans rfl; have hcz1 : w5.cell? ⟨g10, 1, none⟩ = some (.slice none 0 0) := (blk_cell BK10.out 1).trans rfl; have hfz0 := blk_frozen BK10.out 0; have hfz1 := blk_frozen BK10.out 1; have hdz0 : w5.cell? ⟨g11, 0, none⟩ = some (.int .i64 0) := (blk_cell BK11.out 0).trans rfl; have hdz1 : w5.cell? ⟨g11, 1, none⟩ = some (.int .i64 0) := (blk_cell BK11.out 1).trans rfl; have hez0 := blk_frozen BK11.out 0; have hez1 := blk_frozen BK11.out 1; have hnb := blk_ne BK10.out BK11.out (by decide); have hnc := Ne.symm hnb; clear hb hbox hg))
    go_meet
    case rel =>
      refine ⟨g10, g11, Ap, cp, Aw, cw, rfl, rfl, ⟨?_⟩, ⟨?_⟩, ⟨?_⟩, ⟨?_⟩, ⟨?_⟩, ⟨?_⟩⟩
      · refine blk_far (blk_far (blk_put (cs := #[.slice Ap P.length cp, .slice none 0 0]) (blk_put (cs := #[.slice none 0 0, .slice none 0 0]) BK10.out 0 _ rfl) 1 _ rfl) hnb _) hnb _
      · refine blk_put (cs := #[.int .i64 0, .int .i64 0]) (blk_put (cs := #[.int .i64 0, .int .i64 0]) (blk_far (blk_far BK11.out hnc _) hnc _) 0 _ rfl) 1 _ rfl
      · refine blk_far (blk_far (blk_far (blk_far BK9.out ?_ _) ?_ _) NB.out _) NB.out _ <;> exact Ne.symm (blk_ne BK10.out BK9.out (by decide))
      · exact Kd.S_far (p := ⟨g11, 1, none⟩) (Kd.S_far (p := ⟨g11, 0, none⟩) (Kd.S_far (p := ⟨g10, 1, none⟩) (Kd.S_far (p := ⟨g10, 0, none⟩) (Kd.S_types (Kd.S_types HS0.out BK10.out (by decide)) BK11.out (by decide)) (fun _ hk => hk.1.2) _) (fun _ hk => hk.1.2) _) (fun _ hk => hk.2) _) (fun _ hk => hk.2) _ |> fun h => Kd.S_mono h (fun _ _ => trivial)
      · exact Kd.S_far (p := ⟨g11, 1, none⟩) (Kd.S_far (p := ⟨g11, 0, none⟩) (Kd.S_far (p := ⟨g10, 1, none⟩) (Kd.S_far (p := ⟨g10, 0, none⟩) (Kd.S_types (Kd.S_types HS1.out BK10.out (by decide)) BK11.out (by decide)) (fun _ hk => hk.1.2) _) (fun _ hk => hk.1.2) _) (fun _ hk => hk.2) _) (fun _ hk => hk.2) _ |> fun h => Kd.S_mono h (fun _ _ => trivial)
      · exact below_set (below_set (below_set (below_set HB.out GE10.out) GE10.out) GE11.out) GE11.out
  case rest =>
    obtain ⟨g10, g11, Ap, cp, Aw, cw, rfl, rfl, BK10, BK11, BK9', HS0, HS1, HB'⟩ := hcut
    clear HB BK9
    have HB := HB'
    have BK9 := BK9'
    clear HB' BK9'
    have hdz0 : wc.cell? ⟨g11, 0, none⟩ = some (.int .i64 0) := (blk_cell BK11.out 0).trans rfl
    have hdz1 : wc.cell? ⟨g11, 1, none⟩ = some (.int .i64 0) := (blk_cell BK11.out 1).trans rfl
    go_upto_region 8 with fail
    clear hdz0 hdz1
    have hD := below_drew (Below.refl wc.heap.size wc)
    have q0 : wc.cell? ⟨g10, 0, none⟩ = some (.slice Ap P.length cp) := (blk_cell BK10.out 0).trans rfl
    have q1 : wc.cell? ⟨g10, 1, none⟩ = some (.slice Aw W.length cw) := (blk_cell BK10.out 1).trans rfl
    replace BK9 := Aside0.mk (blk_below BK9.out hD)
    replace BK10 := Aside0.mk (blk_below BK10.out hD)
    replace HS0 := Aside0.mk (Kd.S_drew HS0.out)
    replace HS1 := Aside0.mk (Kd.S_drew HS1.out)
    replace HB := Aside0.mk (below_drew HB.out)
    clear hD BK11
    go_region_with (first
      | (go_at_call 42; refine Calls.mono (clone_calls ls A c _ (Kd.C_below HL.out HB.out) HL8.out) ?_; rintro e w6 ⟨v6, rfl, hr, hb⟩; obtain ⟨La, Lc, rfl⟩ := Kd.R_slice hr; have HR := Aside0.mk (Kd.R_lower hr (below_size HB.out)); replace BK9 := Aside0.mk (blk_below BK9.out hb); replace BK10 := Aside0.mk (blk_below BK10.out hb); replace HS0 := Aside0.mk (Kd.S_below HS0.out hb); replace HS1 := Aside0.mk (Kd.S_below HS1.out hb); replace HB := Aside0.mk (below_step HB.out hb); have q2 : w6.cell? ⟨g10, 0, none⟩ = some (.slice Ap P.length cp) := (blk_cell BK10.out 0).trans rfl; have q3 : w6.cell? ⟨g10, 1, none⟩ = some (.slice Aw W.length cw) := (blk_cell BK10.out 1).trans rfl; clear hb hr)
      | (go_at_call 19; refine Calls.mono (Tr.make_fit P Ap cp _ (Kd.S_reads' HS0.out).2.2 (Kd.S_reads' HS0.out).2.1 HF.out) ?_; rintro e w7 ⟨bt, rfl, hT, hb⟩; have HT := Aside0.mk hT; have NB9 := Aside0.mk (blk_lt BK9.out); replace BK9 := Aside0.mk (blk_below BK9.out hb); replace BK10 := Aside0.mk (blk_below BK10.out hb); replace HS0 := Aside0.mk (Kd.S_below HS0.out hb); replace HS1 := Aside0.mk (Kd.S_below HS1.out hb); replace HR := Aside0.mk (Kd.R_below HR.out hb); replace HB := Aside0.mk (below_step HB.out hb); have q4 : w7.cell? ⟨g10, 0, none⟩ = some (.slice Ap P.length cp) := (blk_cell BK10.out 0).trans rfl; have q5 : w7.cell? ⟨g10, 1, none⟩ = some (.slice Aw W.length cw) := (blk_cell BK10.out 1).trans rfl; have ha := blk_alloc BK9.out (.cells #[.slice La ls.length Lc, .pointer (some ⟨bt, 0, none⟩), .slice Aw W.length cw, .int .i64 left, .int .i64 right] 95); have hcz0 : (w7.alloc (.cells #[.slice La ls.length Lc, .pointer (some ⟨bt, 0, none⟩), .slice Aw W.length cw, .int .i64 left, .int .i64 right] 95)).cell? ⟨g9, 0, none⟩ = some (.int .i64 0) := (blk_cell ha 0).trans rfl; have hcz1 : (w7.alloc (.cells #[.slice La ls.length Lc, .pointer (some ⟨bt, 0, none⟩), .slice Aw W.length cw, .int .i64 left, .int .i64 right] 95)).cell? ⟨g9, 1, none⟩ = some (.int .i64 0) := (blk_cell ha 1).trans rfl; have hfz0 := blk_frozen ha 0; have hfz1 := blk_frozen ha 1; clear ha; clear hb hT))
    all_goals go_wp2_with fail
    all_goals
      have ha := blk_alloc BK9.out (.cells #[.slice La ls.length Lc, .pointer (some ⟨bt, 0, none⟩), .slice Aw W.length cw, .int .i64 left, .int .i64 right] 95)
      have ne : w7.heap.size ≠ g9 := Nat.ne_of_gt (blk_lt BK9.out)
      refine bodyPost_ret (results_tc rfl _ _ g9 46 #[.int .i64 0, .int .i64 0] (0, 0) _ rfl (blk_put (cs := #[.int .i64 0, .int .i64 0]) (blk_put (cs := #[.int .i64 0, .int .i64 0]) ha 0 _ rfl) 1 _ rfl) Try.underlying46 rfl (by kernel_rfl)) rfl ?_
      have x1 := blk_far (blk_far (blk_new w7 (.cells #[.slice La ls.length Lc, .pointer (some ⟨bt, 0, none⟩), .slice Aw W.length cw, .int .i64 left, .int .i64 right] 95)) ne (p := ⟨g9, 0, none⟩) (.int .i64 0)) ne (p := ⟨g9, 1, none⟩) (.int .i64 0)
      have x2 := (Kd.R_reads' (Kd.R_far (p := ⟨g9, 1, none⟩) (Kd.R_far (p := ⟨g9, 0, none⟩) (Kd.R_types (Kd.R_alloc HR.out _) ha (by decide)) (fun _ hk => hk.2) (.int .i64 0)) (fun _ hk => hk.2) (.int .i64 0))).2.2
      have x3 := ((HT.out.below (below_alloc (Below.refl _ _) (.cells #[.slice La ls.length Lc, .pointer (some ⟨bt, 0, none⟩), .slice Aw W.length cw, .int .i64 left, .int .i64 right] 95))).set NB9.out 0 (.int .i64 0)).set NB9.out 1 (.int .i64 0)
      have x4 := (Kd.S_reads' (Kd.S_far (p := ⟨g9, 1, none⟩) (Kd.S_far (p := ⟨g9, 0, none⟩) (Kd.S_types (Kd.S_alloc HS1.out _) ha (by decide)) (fun _ hk => hk.2) (.int .i64 0)) (fun _ hk => hk.2) (.int .i64 0))).2.2
      exact ⟨w7.heap.size, La, Lc, bt, _, Aw, cw, rfl, ⟨x1, x2, x3, x4, (Kd.S_reads' HS1.out).2.1⟩, below_set (below_set (below_alloc HB.out _) GE9.out) GE9.out⟩
end Go.Proofs.Ytoefjhdcipgacaa.Hy
end
section
namespace Go.Proofs.Ytoefjhdcipgacaa.Hy
open Go.RowKit Go.Proofs.YtoefjhdcipgacaaW.PrintWords Go.Proofs.YtoefjhdcipgacaaW.PrintLast Go.Proofs.YtoefjhdcipgacaaW.PrintMore
open Go.Proofs.Ytoefjhdcipgacaa.PA
attribute [local go_sem] max2_int min2_int max_two min_two
set_option linter.unusedSimpArgs false
set_option linter.unusedVariables false
def awP : List S39 := [⟨[104, 121, 112], [0, 0, 1, 0]⟩]
def awW : List S39 := [⟨[116, 97, 98, 108, 101], [0, 0, 1, 0, 0, 0]⟩]
def lowL : List S63 := [⟨97, 122, 97⟩]
set_option maxRecDepth 100000 in
theorem aw_parse : pats_Parse.f 40 { data := #[104, 121, 49, 112, 32, 116, 97, 45, 98, 108, 101] } = some (awP, awW, 0, 0) := by kernel_rfl
theorem low_check : hyph_Check.f 40 lowL = some true := by kernel_rfl
theorem aw_fit : Tr.Fit awP := by
  refine ⟨by decide, fun p hp => ?_⟩
  simp only [awP, List.mem_cons, List.not_mem_nil, or_false] at hp
  subst hp
  refine ⟨by decide, by decide, fun r hr => ?_, by decide⟩
  simp only [List.mem_cons, List.not_mem_nil, or_false] at hr
  rcases hr with rfl | rfl | rfl <;> exact ⟨by decide, by decide⟩
theorem aw_told : ∀ p ∈ awW, p.f1.length = p.f0.length + 1 := by decide
def hyphen : List Int := [104, 121, 112, 104, 101, 110]
def table : List Int := [116, 97, 98, 108, 101]
theorem word_of {l : List Int} (h : l.length ≤ 1000) (h2 : ∀ r ∈ l, -2147483648 ≤ r ∧ r ≤ 2147483647) : Tr.Word l := ⟨h, h2⟩
theorem hyphen_word : Tr.Word hyphen := word_of (by decide) (by decide)
theorem table_word : Tr.Word table := word_of (by decide) (by decide)
theorem aw_1 : pts (wordVals awP awW hyphen) 6 2 2 = [false, false, true, false, false, false, false] := by decide +kernel
theorem aw_2 : pts (wordVals awP awW table) 5 2 2 = [false, false, true, false, false, false] := by decide +kernel
theorem aw_3 : pts (wordVals awP awW table) 5 2 4 = [false, false, false, false, false, false] := by decide +kernel
set_option maxHeartbeats 8000000 in
set_option maxRecDepth 100000 in
theorem awake09_calls (w : World) : Calls Try.prog 24 #[] w fun e w' => e = .returned (.bool true) ∧ Below w.heap.size w w' := by
  have HB := Aside0.mk (Below.refl w.heap.size w)
  go_enter Try.func24, Try.ntmps24
  go_upto_region 1 with fail
  go_cut [1, 2] (fun v1 v2 wc => ∃ b La Lc bt base Wa Wc g2, v1 = .pointer (some ⟨b, 0, none⟩) ∧ v2 = .pointer (some ⟨g2, 0, none⟩) ∧ Aside0 (HyphAt wc b lowL (Tr.make (awP.map Tr.pq)) awW 2 2 La Lc bt base Wa Wc) ∧ Aside0 (wc.heap[g2]? = some (.cells #[.int .i64 0, .int .i64 0] 46 (0, 0))) ∧ Aside0 (Below w.heap.size w wc))
  case first =>
    go_wp2_with (first
      | ((with_reducible refine gate_callee (f := 36) rfl ?_); (refine goesL_ (some 9) rfl rfl Try.func36 (by kernel_rfl) rfl #[] rfl (by (try simp only [List.map_toArray, List.map_cons, List.map_nil]); first | done | rfl) ?_; refine (stanzalaw09_low.calls lowL _ rfl).mono ?_; rintro e wa ⟨v, rfl, hr, hb⟩; refine ⟨_, rfl, ?_⟩; obtain ⟨Al, cl, hv_, hl_, hc_⟩ := Kd.R_reads hr; subst hv_; have HLl := Aside0.mk hl_; have HLc := Aside0.mk hc_; replace HB := Aside0.mk (below_step HB.out hb); clear hb hr hl_ hc_))
      | ((with_reducible refine gate_callee (f := 26) rfl ?_); (refine goesL_ (some 10) rfl rfl Try.func26 (by kernel_rfl) rfl #[.string { data := #[104, 121, 49, 112, 32, 116, 97, 45, 98, 108, 101] }, .slice Al lowL.length cl, .int .i64 2, .int .i64 2] rfl (by (try simp only [List.map_toArray, List.map_cons, List.map_nil]); first | done | rfl) ?_; refine (new_ok 40 _ Al cl lowL 2 2 awP awW _ HLc.out HLl.out (by decide) low_check (by decide) (by decide) (by decide) (by decide) aw_parse aw_fit).mono ?_; rintro e wb ⟨b, La, Lc, bt, base, Wa, Wc, rfl, hH, hb⟩; refine ⟨_, rfl, ?_⟩; have HH := Aside0.mk hH; replace HB := Aside0.mk (below_step HB.out hb); clear hb hH HLl HLc))
      | ((with_reducible refine gate_dst (N := 2) rfl ?_); refine box_event ?hg (N := 2) ?hd (cs := #[.int .i64 0, .int .i64 0]) (t := 46) ?hr ?_; (case hd => rfl); (case hg => rfl); (case hr => first | (go_simp; done) | (go_simp; rfl)); intro gx hg wc1 hbox hb; have GE := Aside0.mk (by rw [hg]; exact below_size HB.out : w.heap.size ≤ gx); have GH := Aside0.mk (Nat.le_of_eq hg.symm : wb.heap.size ≤ gx); have BKx := Aside0.mk hbox; have HBb := Aside0.mk hb; replace HB := Aside0.mk (below_step HB.out hb); have hcz0 : wc1.cell? ⟨gx, 0, none⟩ = some (.int .i64 0) := (blk_cell hbox 0).trans rfl; have hcz1 : wc1.cell? ⟨gx, 1, none⟩ = some (.int .i64 0) := (blk_cell hbox 1).trans rfl; have hfz0 := blk_frozen hbox 0; have hfz1 := blk_frozen hbox 1; clear hb hbox hg))
    go_meet
    case rel =>
      refine ⟨b, La, Lc, bt, base, Wa, Wc, gx, rfl, rfl, ⟨HH.out.below (below_set (below_set HBb.out GH.out) GH.out)⟩, ⟨?_⟩, ⟨below_set (below_set HB.out GE.out) GE.out⟩⟩
      exact blk_put (cs := #[.int .i64 0, .int .i64 0]) (blk_put (cs := #[.int .i64 0, .int .i64 0]) BKx.out 0 _ rfl) 1 _ rfl
  case rest =>
    obtain ⟨b1, La1, Lc1, bt1, base1, Wa1, Wc1, g2, rfl, rfl, HH1, BK2, HB'⟩ := hcut
    clear HB
    have HB := HB'
    clear HB'
    rename World => wz
    go_upto_region 2 with fail
    go_cut [3, 4] (fun v3 v4 wc => ∃ b La Lc bt base Wa Wc g4, v3 = .pointer (some ⟨b, 0, none⟩) ∧ v4 = .pointer (some ⟨g4, 0, none⟩) ∧ Aside0 (HyphAt wc b1 lowL (Tr.make (awP.map Tr.pq)) awW 2 2 La1 Lc1 bt1 base1 Wa1 Wc1) ∧ Aside0 (HyphAt wc b lowL (Tr.make (awP.map Tr.pq)) awW 2 4 La Lc bt base Wa Wc) ∧ Aside0 (wc.heap[g2]? = some (.cells #[.int .i64 0, .int .i64 0] 46 (0, 0))) ∧ Aside0 (wc.heap[g4]? = some (.cells #[.int .i64 0, .int .i64 0] 46 (0, 0))) ∧ Aside0 (Below w.heap.size w wc))
    case first =>
      go_wp2_with (first
      | ((with_reducible refine gate_callee (f := 36) rfl ?_); (refine goesL_ (some 14) rfl rfl Try.func36 (by kernel_rfl) rfl #[] rfl (by (try simp only [List.map_toArray, List.map_cons, List.map_nil]); first | done | rfl) ?_; refine (stanzalaw09_low.calls lowL _ rfl).mono ?_; rintro e wa ⟨v, rfl, hr, hb⟩; refine ⟨_, rfl, ?_⟩; obtain ⟨Al, cl, hv_, hl_, hc_⟩ := Kd.R_reads hr; subst hv_; have HLl := Aside0.mk hl_; have HLc := Aside0.mk hc_; replace HB := Aside0.mk (below_step HB.out hb); replace HH1 := Aside0.mk (HH1.out.below hb); replace BK2 := Aside0.mk (blk_below BK2.out hb); clear hb hr hl_ hc_))
      | ((with_reducible refine gate_callee (f := 26) rfl ?_); (refine goesL_ (some 15) rfl rfl Try.func26 (by kernel_rfl) rfl #[.string { data := #[104, 121, 49, 112, 32, 116, 97, 45, 98, 108, 101] }, .slice Al lowL.length cl, .int .i64 2, .int .i64 4] rfl (by (try simp only [List.map_toArray, List.map_cons, List.map_nil]); first | done | rfl) ?_; refine (new_ok 40 _ Al cl lowL 2 4 awP awW _ HLc.out HLl.out (by decide) low_check (by decide) (by decide) (by decide) (by decide) aw_parse aw_fit).mono ?_; rintro e wb ⟨b, La, Lc, bt, base, Wa, Wc, rfl, hH, hb⟩; refine ⟨_, rfl, ?_⟩; have HH := Aside0.mk hH; replace HB := Aside0.mk (below_step HB.out hb); replace HH1 := Aside0.mk (HH1.out.below hb); replace BK2 := Aside0.mk (blk_below BK2.out hb); clear hb hH HLl HLc))
      | ((with_reducible refine gate_dst (N := 4) rfl ?_); refine box_event ?hg (N := 4) ?hd (cs := #[.int .i64 0, .int .i64 0]) (t := 46) ?hr ?_; (case hd => rfl); (case hg => rfl); (case hr => first | (go_simp; done) | (go_simp; rfl)); intro gx hg wc1 hbox hb; have GE := Aside0.mk (by rw [hg]; exact below_size HB.out : w.heap.size ≤ gx); have GH := Aside0.mk (Nat.le_of_eq hg.symm : wb.heap.size ≤ gx); have BKx := Aside0.mk hbox; have HBb := Aside0.mk hb; replace HB := Aside0.mk (below_step HB.out hb); have hcz0 : wc1.cell? ⟨gx, 0, none⟩ = some (.int .i64 0) := (blk_cell hbox 0).trans rfl; have hcz1 : wc1.cell? ⟨gx, 1, none⟩ = some (.int .i64 0) := (blk_cell hbox 1).trans rfl; have hfz0 := blk_frozen hbox 0; have hfz1 := blk_frozen hbox 1; clear hb hbox hg))
      go_meet
      case rel =>
        refine ⟨b, La, Lc, bt, base, Wa, Wc, gx, rfl, rfl, ⟨HH1.out.below (below_set (below_set HBb.out GH.out) GH.out)⟩, ⟨HH.out.below (below_set (below_set HBb.out GH.out) GH.out)⟩, ⟨blk_below BK2.out (below_set (below_set HBb.out GH.out) GH.out)⟩, ⟨?_⟩, ⟨below_set (below_set HB.out GE.out) GE.out⟩⟩
        exact blk_put (cs := #[.int .i64 0, .int .i64 0]) (blk_put (cs := #[.int .i64 0, .int .i64 0]) BKx.out 0 _ rfl) 1 _ rfl
    case rest =>
      obtain ⟨b2, La2, Lc2, bt2, base2, Wa2, Wc2, g4, rfl, rfl, HH1', HH2, BK2', BK4, HB'⟩ := hcut
      clear HB HH1 BK2
      rename World => wy
      have q2 : wy.cell? ⟨g2, 0, none⟩ = some (.int .i64 0) := (blk_cell BK2'.out 0).trans rfl
      have q4 : wy.cell? ⟨g4, 0, none⟩ = some (.int .i64 0) := (blk_cell BK4.out 0).trans rfl
      go_upto_region 5 with fail
      clear q2 q4 BK2' BK4
      have HB := HB'
      have HH1 := HH1'
      clear HB' HH1'
      go_cut [5, 6, 7] (fun v5 v6 v7 wc => ∃ A5 c5 A6 c6 A7 c7, v5 = .slice A5 7 c5 ∧ v6 = .slice A6 6 c6 ∧ v7 = .slice A7 6 c7 ∧ Aside0 (Kd.C Kd.bool wc A5 7 [false, false, true, false, false, false, false]) ∧ Aside0 (Kd.C Kd.bool wc A6 6 [false, false, true, false, false, false]) ∧ Aside0 (Kd.C Kd.bool wc A7 6 [false, false, false, false, false, false]) ∧ Aside0 (Below w.heap.size w wc))
      case first =>
        go_wp2_with (first
          | ((with_reducible refine gate_dst (N := 27) rfl ?_); (refine Kd.R_lit (Kd.int .i32) (w0 := w) w.heap.size 21 ?hg (N := 27) ?hd (xs := hyphen) (inner := [.int .i32 104, .int .i32 121, .int .i32 112, .int .i32 104, .int .i32 101, .int .i32 110]) (ok := fun _ => True) (okp := fun _ => True) ?hr ?hp (fun _ hk => hk) trivial HB.out (below_size HB.out) (by decide) ?_; (case hd => rfl); (case hg => rfl); (case hr => first | (go_simp; done) | (go_simp; rfl)); (case hp => exact (Reps.one (show Kd.M (Kd.int .i32) _ _ _ 104 [.int .i32 104] from rfl) (Reps.one (show Kd.M (Kd.int .i32) _ _ _ 121 [.int .i32 121] from rfl) (Reps.one (show Kd.M (Kd.int .i32) _ _ _ 112 [.int .i32 112] from rfl) (Reps.one (show Kd.M (Kd.int .i32) _ _ _ 104 [.int .i32 104] from rfl) (Reps.one (show Kd.M (Kd.int .i32) _ _ _ 101 [.int .i32 101] from rfl) (Reps.one (show Kd.M (Kd.int .i32) _ _ _ 110 [.int .i32 110] from rfl) (Reps.none _ _)))))))); intro v27 w27 ho hb_ hg_ hn_; clear hn_; obtain ⟨A27, c27, hv_, hl_, hc_⟩ := Kd.R_reads ho; subst hv_; have HL27 := Aside0.mk hl_; have HC27 := Aside0.mk hc_; have hb := below_none hg_; replace HH1 := Aside0.mk (HH1.out.below hb); replace HH2 := Aside0.mk (HH2.out.below hb); replace HB := Aside0.mk hb_; clear ho hb_ hg_ hl_ hc_ hb))
          | ((with_reducible refine gate_callee (f := 33) rfl ?_); (refine goesL_ (some 28) rfl rfl Try.func33 (by kernel_rfl) rfl #[.pointer (some ⟨b1, 0, none⟩), .slice A27 hyphen.length c27] rfl (by (try simp only [List.map_toArray, List.map_cons, List.map_nil]); first | done | rfl) ?_; refine (word_calls b1 lowL awP awW 2 2 La1 Lc1 bt1 base1 Wa1 Wc1 A27 c27 hyphen _ HH1.out HC27.out HL27.out aw_fit hyphen_word (by decide) (by decide) aw_told).mono ?_; rintro e wa ⟨v, rfl, hr, hb⟩; refine ⟨_, rfl, ?_⟩; rw [show hyphen.length = 6 from rfl, aw_1] at hr; obtain ⟨A5, c5, hv_, hl_, hc_⟩ := Kd.R_reads hr; subst hv_; have HC5 := Aside0.mk hc_; replace HH1 := Aside0.mk (HH1.out.below hb); replace HH2 := Aside0.mk (HH2.out.below hb); replace HB := Aside0.mk (below_step HB.out hb); clear hb hr hl_ hc_))
          | ((with_reducible refine gate_dst (N := 30) rfl ?_); (refine Kd.R_lit (Kd.int .i32) (w0 := w) w.heap.size 21 ?hg (N := 30) ?hd (xs := table) (inner := [.int .i32 116, .int .i32 97, .int .i32 98, .int .i32 108, .int .i32 101]) (ok := fun _ => True) (okp := fun _ => True) ?hr ?hp (fun _ hk => hk) trivial HB.out (below_size HB.out) (by decide) ?_; (case hd => rfl); (case hg => rfl); (case hr => first | (go_simp; done) | (go_simp; rfl)); (case hp => exact (Reps.one (show Kd.M (Kd.int .i32) _ _ _ 116 [.int .i32 116] from rfl) (Reps.one (show Kd.M (Kd.int .i32) _ _ _ 97 [.int .i32 97] from rfl) (Reps.one (show Kd.M (Kd.int .i32) _ _ _ 98 [.int .i32 98] from rfl) (Reps.one (show Kd.M (Kd.int .i32) _ _ _ 108 [.int .i32 108] from rfl) (Reps.one (show Kd.M (Kd.int .i32) _ _ _ 101 [.int .i32 101] from rfl) (Reps.none _ _))))))); intro v30 w30 ho hb_ hg_ hn_; clear hn_; obtain ⟨A30, c30, hv_, hl_, hc_⟩ := Kd.R_reads ho; subst hv_; have HL30 := Aside0.mk hl_; have HC30 := Aside0.mk hc_; have hb := below_none hg_; replace HC5 := Aside0.mk (Kd.C_below HC5.out hb); replace HH1 := Aside0.mk (HH1.out.below hb); replace HH2 := Aside0.mk (HH2.out.below hb); replace HB := Aside0.mk hb_; clear ho hb_ hg_ hl_ hc_ hb))
          | ((with_reducible refine gate_callee (f := 33) rfl ?_); (refine goesL_ (some 31) rfl rfl Try.func33 (by kernel_rfl) rfl #[.pointer (some ⟨b1, 0, none⟩), .slice A30 table.length c30] rfl (by (try simp only [List.map_toArray, List.map_cons, List.map_nil]); first | done | rfl) ?_; refine (word_calls b1 lowL awP awW 2 2 La1 Lc1 bt1 base1 Wa1 Wc1 A30 c30 table _ HH1.out HC30.out HL30.out aw_fit table_word (by decide) (by decide) aw_told).mono ?_; rintro e wa ⟨v, rfl, hr, hb⟩; refine ⟨_, rfl, ?_⟩; rw [show table.length = 5 from rfl, aw_2] at hr; obtain ⟨A6, c6, hv_, hl_, hc_⟩ := Kd.R_reads hr; subst hv_; have HC6 := Aside0.mk hc_; replace HC5 := Aside0.mk (Kd.C_below HC5.out hb); replace HH2 := Aside0.mk (HH2.out.below hb); replace HB := Aside0.mk (below_step HB.out hb); clear hb hr hl_ hc_))
          | ((with_reducible refine gate_dst (N := 33) rfl ?_); (refine Kd.R_lit (Kd.int .i32) (w0 := w) w.heap.size 21 ?hg (N := 33) ?hd (xs := table) (inner := [.int .i32 116, .int .i32 97, .int .i32 98, .int .i32 108, .int .i32 101]) (ok := fun _ => True) (okp := fun _ => True) ?hr ?hp (fun _ hk => hk) trivial HB.out (below_size HB.out) (by decide) ?_; (case hd => rfl); (case hg => rfl); (case hr => first | (go_simp; done) | (go_simp; rfl)); (case hp => exact (Reps.one (show Kd.M (Kd.int .i32) _ _ _ 116 [.int .i32 116] from rfl) (Reps.one (show Kd.M (Kd.int .i32) _ _ _ 97 [.int .i32 97] from rfl) (Reps.one (show Kd.M (Kd.int .i32) _ _ _ 98 [.int .i32 98] from rfl) (Reps.one (show Kd.M (Kd.int .i32) _ _ _ 108 [.int .i32 108] from rfl) (Reps.one (show Kd.M (Kd.int .i32) _ _ _ 101 [.int .i32 101] from rfl) (Reps.none _ _))))))); intro v33 w33 ho hb_ hg_ hn_; clear hn_; obtain ⟨A33, c33, hv_, hl_, hc_⟩ := Kd.R_reads ho; subst hv_; have HL33 := Aside0.mk hl_; have HC33 := Aside0.mk hc_; have hb := below_none hg_; replace HC5 := Aside0.mk (Kd.C_below HC5.out hb); replace HC6 := Aside0.mk (Kd.C_below HC6.out hb); replace HH2 := Aside0.mk (HH2.out.below hb); replace HB := Aside0.mk hb_; clear ho hb_ hg_ hl_ hc_ hb))
          | ((with_reducible refine gate_callee (f := 33) rfl ?_); (refine goesL_ (some 34) rfl rfl Try.func33 (by kernel_rfl) rfl #[.pointer (some ⟨b2, 0, none⟩), .slice A33 table.length c33] rfl (by (try simp only [List.map_toArray, List.map_cons, List.map_nil]); first | done | rfl) ?_; refine (word_calls b2 lowL awP awW 2 4 La2 Lc2 bt2 base2 Wa2 Wc2 A33 c33 table _ HH2.out HC33.out HL33.out aw_fit table_word (by decide) (by decide) aw_told).mono ?_; rintro e wa ⟨v, rfl, hr, hb⟩; refine ⟨_, rfl, ?_⟩; rw [show table.length = 5 from rfl, aw_3] at hr; obtain ⟨A7, c7, hv_, hl_, hc_⟩ := Kd.R_reads hr; subst hv_; have HC7 := Aside0.mk hc_; replace HC5 := Aside0.mk (Kd.C_below HC5.out hb); replace HC6 := Aside0.mk (Kd.C_below HC6.out hb); replace HB := Aside0.mk (below_step HB.out hb); clear hb hr hl_ hc_)))
        go_meet
        case rel => exact ⟨A5, c5, A6, c6, A7, c7, rfl, rfl, rfl, HC5, HC6, HC7, HB⟩
      case rest =>
        obtain ⟨A5, c5, A6, c6, A7, c7, rfl, rfl, rfl, HC5, HC6, HC7, HB'⟩ := hcut
        obtain ⟨ad5, e5, x52⟩ := Kd.at_bool HC5.out 2 (by decide) (by decide)
        subst e5
        obtain ⟨ad5', e5, x53⟩ := Kd.at_bool HC5.out 3 (by decide) (by decide)
        injection e5 with e5
        subst e5
        obtain ⟨ad6, e6, x62⟩ := Kd.at_bool HC6.out 2 (by decide) (by decide)
        subst e6
        obtain ⟨ad7, e7, x72⟩ := Kd.at_bool HC7.out 2 (by decide) (by decide)
        subst e7
        replace x52 : wc.cell? ⟨ad5.block, ad5.off + 2, none⟩ = some (.bool true) := x52
        replace x53 : wc.cell? ⟨ad5.block, ad5.off + 3, none⟩ = some (.bool false) := x53
        replace x62 : wc.cell? ⟨ad6.block, ad6.off + 2, none⟩ = some (.bool true) := x62
        replace x72 : wc.cell? ⟨ad7.block, ad7.off + 2, none⟩ = some (.bool false) := x72
        go_wp2_with fail
        go_ret
        exact ⟨rfl, HB'.out⟩
end Go.Proofs.Ytoefjhdcipgacaa.Hy
end
section
namespace Go.Proofs.Ytoefjhdcipgacaa.Hy
open Go.RowKit Go.Proofs.YtoefjhdcipgacaaW.PrintWords Go.Proofs.YtoefjhdcipgacaaW.PrintLast Go.Proofs.YtoefjhdcipgacaaW.PrintMore
open Go.Proofs.Ytoefjhdcipgacaa.PA Go.Proofs.Ytoefjhdcipgacaa.Dec
abbrev codeOf (s : ByteArray) : Int := (parseOf s).2.2.1
abbrev atOf (s : ByteArray) : Int := (parseOf s).2.2.2
abbrev patsOf (s : ByteArray) : List S39 := (parseOf s).1
abbrev toldOf (s : ByteArray) : List S39 := (parseOf s).2.1
theorem pparse_zero (f : Nat) : ∀ (l : List S66) (xs ws : List S39), (pparse f l xs ws).2.2.1 = 0 → (pparse f l xs ws).2.2.2 = 0 := by
  induction f with
  | zero => intro l xs ws _; rfl
  | succ f ih =>
    intro l xs ws h
    cases l with
    | nil => rfl
    | cons s t =>
      rw [pparse] at h ⊢
      split at h
      · rename_i hb; rw [if_pos hb]; exact ih _ _ _ h
      · rename_i hb
        rw [if_neg hb]
        split at h
        · cases h
        · rename_i hm
          rw [if_neg hm]
          dsimp only at h ⊢
          split at h
          · rename_i hok
            rw [if_pos hok]
            split at h
            · rename_i hh
              rw [if_pos hh]
              split at h
              · cases h
              · rename_i hk; rw [if_neg hk]; exact ih _ _ _ h
            · rename_i hh; rw [if_neg hh]; exact ih _ _ _ h
          · cases h
theorem at_zero {s : ByteArray} (h : codeOf s = 0) : atOf s = 0 := by
  unfold codeOf atOf parseOf at *
  split at h
  · cases h
  · rename_i hs; rw [if_neg hs]; exact pparse_zero _ _ _ _ h
theorem parse_eq' (s : ByteArray) : pats_Parse.f 40000 s = some (patsOf s, toldOf s, codeOf s, atOf s) := parse_eq s 40000 (Nat.le_refl _)
theorem newB (s : ByteArray) (A : Option Addr) (c : Nat) (ls : List S63) (left right : Int) (w : World) (hl : Kd.C k63 w A ls.length ls) (hlc : ls.length ≤ c) (hck : hyph_Check.f 40000 ls = some true) (h1 : 1 ≤ left ∧ left ≤ 24) (h2 : 1 ≤ right ∧ right ≤ 24) (hc : codeOf s ≠ 0) :
    Calls Try.prog 26 #[.string s, .slice A ls.length c, .int .i64 left, .int .i64 right] w fun e w' => e = .returned (.tuple #[.pointer none, .agg #[.int .i64 (codeOf s), .int .i64 (atOf s)]]) ∧ Below w.heap.size w w' :=
  new_bad3 40000 s A c ls left right (patsOf s) (toldOf s) (codeOf s) (atOf s) w hl hlc hck h1.1 h2.1 h1.2 h2.2 (parse_eq' s) hc
theorem newC (s : ByteArray) (A : Option Addr) (c : Nat) (ls : List S63) (left right : Int) (w : World) (hl : Kd.C k63 w A ls.length ls) (hlc : ls.length ≤ c) (h8 : ls.length ≤ 1000000) (hck : hyph_Check.f 40000 ls = some true) (h1 : 1 ≤ left ∧ left ≤ 24) (h2 : 1 ≤ right ∧ right ≤ 24) (hc : codeOf s = 0) :
    Calls Try.prog 26 #[.string s, .slice A ls.length c, .int .i64 left, .int .i64 right] w fun e w' => ∃ b La Lc bt base Wa Wc, e = .returned (.tuple #[.pointer (some ⟨b, 0, none⟩), .agg #[.int .i64 0, .int .i64 0]]) ∧ HyphAt w' b ls (Tr.make ((patsOf s).map Tr.pq)) (toldOf s) left right La Lc bt base Wa Wc ∧ Below w.heap.size w w' :=
  new_ok 40000 s A c ls left right (patsOf s) (toldOf s) w hl hlc h8 hck h1.1 h2.1 h1.2 h2.2 (by rw [parse_eq' s, hc, at_zero hc]) (parseOf_fit s)
end Go.Proofs.Ytoefjhdcipgacaa.Hy
end
section
namespace Go.Proofs.Ytoefjhdcipgacaa.Hy
open Go.RowKit Go.Proofs.YtoefjhdcipgacaaW.PrintWords Go.Proofs.YtoefjhdcipgacaaW.PrintLast Go.Proofs.YtoefjhdcipgacaaW.PrintMore
open Go.Proofs.Ytoefjhdcipgacaa.PA Go.Proofs.Ytoefjhdcipgacaa.Dec
def chkFrom : Int → List S63 → Bool
  | _, [] => true
  | last, r :: t => if r.f0 ≤ last ∨ r.f1 < r.f0 ∨ r.f1 > 1114111 ∨ r.f2 < 0 ∨ r.f2 > 1114111 - (r.f1 - r.f0) then false else chkFrom r.f1 t
def chk (ls : List S63) : Bool := decide (ls.length ≤ 256) && chkFrom (-1) ls
theorem drop63 {ls : List S63} {i : Nat} (hi : i < ls.length) : ls.drop i = rd_T63 ls (i : Int) :: ls.drop (i + 1) := by
  rw [List.drop_eq_getElem_cons hi, rd_T63, Int.toNat_natCast, List.getD_eq_getElem?_getD, List.getElem?_eq_getElem hi, Option.getD_some]
theorem chk_run {ls : List S63} (hl : ls.length ≤ 256) (m : Nat) : ∀ (i k : Nat) (last : Int), ls.length - i ≤ m → i ≤ ls.length → m + 2 ≤ k → -1 ≤ last → hyph_Check.l0 k last ls (ls.length : Int) (i : Int) = some (chkFrom last (ls.drop i)) := by
  induction m with
  | zero =>
    intro i k last hm hi hk _
    obtain ⟨k, rfl⟩ : ∃ k', k = k' + 1 := ⟨k - 1, by omega⟩
    rw [hyph_Check.l0.eq_2, if_neg (by omega), List.drop_eq_nil_of_le (by omega)]
    rfl
  | succ m ih =>
    intro i k last hm hi hk hlast
    obtain ⟨k, rfl⟩ : ∃ k', k = k' + 1 := ⟨k - 1, by omega⟩
    rw [hyph_Check.l0.eq_2]
    by_cases hc : (i : Int) < (ls.length : Int)
    · rw [drop63 (show i < ls.length by omega), chkFrom]
      have hih := fun (last : Int) (h : -1 ≤ last) => ih (i + 1) k last (by omega) (by omega) (by omega) h
      have e4 : wrap64 ((i : Int) + 1) = ((i + 1 : Nat) : Int) := by rw [w64 _ ⟨by omega, by omega⟩]; omega
      rw [if_pos hc, if_pos (show (0 : Int) ≤ (i : Int) by omega), if_pos hc]
      generalize rd_T63 ls (i : Int) = y0
      simp only [e4]
      clear e4
      by_cases c1 : y0.f0 ≤ last
      · rw [if_pos c1, if_pos (Or.inl c1)]
      rw [if_neg c1]
      by_cases c2 : y0.f1 < y0.f0
      · rw [if_pos c2, if_pos (Or.inr (Or.inl c2))]
      rw [if_neg c2]
      by_cases c3 : y0.f1 > 1114111
      · rw [if_pos c3, if_pos (Or.inr (Or.inr (Or.inl c3)))]
      rw [if_neg c3]
      by_cases c4 : y0.f2 < 0
      · rw [if_pos c4, if_pos (Or.inr (Or.inr (Or.inr (Or.inl c4))))]
      rw [if_neg c4]
      have e1 : wrap32 (y0.f1 - y0.f0) = y0.f1 - y0.f0 := w32 _ ⟨by omega, by omega⟩
      have e2 : wrap64 (y0.f1 - y0.f0) = y0.f1 - y0.f0 := w64 _ ⟨by omega, by omega⟩
      have e3 : wrap64 (1114111 - (y0.f1 - y0.f0)) = 1114111 - (y0.f1 - y0.f0) := w64 _ ⟨by omega, by omega⟩
      simp only [e1, e2, e3]
      clear e1 e2 e3
      by_cases c5 : y0.f2 > 1114111 - (y0.f1 - y0.f0)
      · rw [if_pos c5, if_pos (Or.inr (Or.inr (Or.inr (Or.inr c5))))]
      · rw [if_neg c5, if_neg (by omega)]
        exact hih _ (by omega)
    · rw [if_neg hc, List.drop_eq_nil_of_le (by omega)]
      rfl
theorem check_eq (ls : List S63) (k : Nat) (hk : 300 ≤ k) : hyph_Check.f k ls = some (chk ls) := by
  unfold hyph_Check.f chk
  by_cases h : ls.length ≤ 256
  · rw [if_neg (by omega), decide_eq_true h, Bool.true_and]
    exact chk_run h ls.length 0 k (-1) (by omega) (Nat.zero_le _) (by omega) (by omega)
  · rw [if_pos (by omega), decide_eq_false h, Bool.false_and]
theorem let_l0 (k : Nat) (x0 : List S63) (x3 : Int) : stanzaref07_Letters.l0 (k + 1) x0 x3 = if x3 < (x0.length : Int) then (if 0 ≤ x3 then (if ((rd_T63 x0 x3).f0) < 0 then (stanzaref07_Letters.j1 k x0 x3 true) else (if ((rd_T63 x0 x3).f1) < ((rd_T63 x0 x3).f0) then (stanzaref07_Letters.j1 k x0 x3 true) else (if ((rd_T63 x0 x3).f1) > 1114111 then (stanzaref07_Letters.j1 k x0 x3 true) else (if x3 > 0 then (if 0 ≤ (wrap64 (x3 - 1)) then (if (wrap64 (x3 - 1)) < (x0.length : Int) then (stanzaref07_Letters.j1 k x0 x3 (decide (((rd_T63 x0 x3).f0) ≤ ((rd_T63 x0 (wrap64 (x3 - 1))).f1)))) else (none)) else (none)) else (stanzaref07_Letters.j1 k x0 x3 false))))) else (none)) else (some true) := rfl
theorem let_j1 (k : Nat) (x0 : List S63) (x3 : Int) (b : Bool) : stanzaref07_Letters.j1 (k + 1) x0 x3 b = if b = true then (some false) else (if 0 ≤ x3 then (if x3 < (x0.length : Int) then (if ((rd_T63 x0 x3).f2) < 0 then (some false) else (if ((rd_T63 x0 x3).f2) > 1114111 then (some false) else (if (wrap64 ((wrap64 (((rd_T63 x0 x3).f2) + (wrap64 ((rd_T63 x0 x3).f1)))) - (wrap64 ((rd_T63 x0 x3).f0)))) > 1114111 then (some false) else (stanzaref07_Letters.l0 k x0 (wrap64 (x3 + 1)))))) else (none)) else (none)) := rfl
theorem let_run {ls : List S63} (hl : ls.length ≤ 256) (m : Nat) : ∀ (i k : Nat) (last : Int), ls.length - i ≤ m → i ≤ ls.length → 2 * m + 2 ≤ k → -1 ≤ last → (i = 0 → last = -1) → (0 < i → last = (rd_T63 ls ((i : Int) - 1)).f1) → stanzaref07_Letters.l0 k ls (i : Int) = some (chkFrom last (ls.drop i)) := by
  induction m with
  | zero =>
    intro i k last hm hi hk _ _ _
    obtain ⟨k, rfl⟩ : ∃ k', k = k' + 1 := ⟨k - 1, by omega⟩
    rw [let_l0, if_neg (by omega), List.drop_eq_nil_of_le (by omega)]
    rfl
  | succ m ih =>
    intro i k last hm hi hk hlast h0 h1
    obtain ⟨k, rfl⟩ : ∃ k', k = k' + 1 + 1 := ⟨k - 2, by omega⟩
    rw [let_l0]
    by_cases hc : (i : Int) < (ls.length : Int)
    · have e5 : wrap64 ((i : Int) - 1) = (i : Int) - 1 := w64 _ ⟨by omega, by omega⟩
      have e4 : wrap64 ((i : Int) + 1) = ((i + 1 : Nat) : Int) := by rw [w64 _ ⟨by omega, by omega⟩]; omega
      have hih := fun (h : -1 ≤ (rd_T63 ls (i : Int)).f1) => ih (i + 1) k (rd_T63 ls (i : Int)).f1 (by omega) (by omega) (by omega) h (fun h => by omega) (fun _ => by rw [show ((i + 1 : Nat) : Int) - 1 = (i : Int) by omega])
      rw [drop63 (show i < ls.length by omega), chkFrom, if_pos hc, if_pos (show (0 : Int) ≤ (i : Int) by omega)]
      have hj : ∀ b : Bool, b = decide ((rd_T63 ls (i : Int)).f0 ≤ last) → ¬ (rd_T63 ls (i : Int)).f1 < (rd_T63 ls (i : Int)).f0 → ¬ (rd_T63 ls (i : Int)).f1 > 1114111 → stanzaref07_Letters.j1 (k + 1) ls (i : Int) b = some (if (rd_T63 ls (i : Int)).f0 ≤ last ∨ (rd_T63 ls (i : Int)).f1 < (rd_T63 ls (i : Int)).f0 ∨ (rd_T63 ls (i : Int)).f1 > 1114111 ∨ (rd_T63 ls (i : Int)).f2 < 0 ∨ (rd_T63 ls (i : Int)).f2 > 1114111 - ((rd_T63 ls (i : Int)).f1 - (rd_T63 ls (i : Int)).f0) then false else chkFrom (rd_T63 ls (i : Int)).f1 (ls.drop (i + 1))) := by
        intro b hb c2 c3
        rw [let_j1, if_pos (show (0 : Int) ≤ (i : Int) by omega), if_pos hc, e4]
        clear e4 e5 h1
        generalize rd_T63 ls (i : Int) = y0 at *
        by_cases c1 : y0.f0 ≤ last
        · rw [if_pos (by rw [hb]; exact decide_eq_true c1), if_pos (Or.inl c1)]
        rw [if_neg (by rw [hb, decide_eq_false c1]; decide)]
        by_cases c4 : y0.f2 < 0
        · rw [if_pos c4, if_pos (Or.inr (Or.inr (Or.inr (Or.inl c4))))]
        rw [if_neg c4]
        by_cases c5 : y0.f2 > 1114111
        · rw [if_pos c5, if_pos (Or.inr (Or.inr (Or.inr (Or.inr (by omega)))))]
        rw [if_neg c5]
        have e1 : wrap64 y0.f1 = y0.f1 := w64 _ ⟨by omega, by omega⟩
        have e2 : wrap64 y0.f0 = y0.f0 := w64 _ ⟨by omega, by omega⟩
        have e3 : wrap64 (y0.f2 + y0.f1) = y0.f2 + y0.f1 := w64 _ ⟨by omega, by omega⟩
        have e6 : wrap64 (y0.f2 + y0.f1 - y0.f0) = y0.f2 + y0.f1 - y0.f0 := w64 _ ⟨by omega, by omega⟩
        simp only [e1, e2, e3, e6]
        clear e1 e2 e3 e6
        by_cases c6 : y0.f2 + y0.f1 - y0.f0 > 1114111
        · rw [if_pos c6, if_pos (Or.inr (Or.inr (Or.inr (Or.inr (by omega)))))]
        · rw [if_neg c6, if_neg (by omega)]
          exact hih (by omega)
      have hbad : stanzaref07_Letters.j1 (k + 1) ls (i : Int) true = some false := by rw [let_j1, if_pos rfl]
      by_cases c0 : (rd_T63 ls (i : Int)).f0 < 0
      · rw [if_pos c0, hbad]
        rw [if_pos]
        by_cases hi0 : i = 0
        · rw [h0 hi0]; left; omega
        · left; omega
      rw [if_neg c0]
      by_cases c2 : (rd_T63 ls (i : Int)).f1 < (rd_T63 ls (i : Int)).f0
      · rw [if_pos c2, hbad, if_pos (Or.inr (Or.inl c2))]
      rw [if_neg c2]
      by_cases c3 : (rd_T63 ls (i : Int)).f1 > 1114111
      · rw [if_pos c3, hbad, if_pos (Or.inr (Or.inr (Or.inl c3)))]
      rw [if_neg c3]
      by_cases hi0 : i = 0
      · rw [if_neg (by omega)]
        exact hj false (by rw [h0 hi0]; exact (decide_eq_false (by omega)).symm) c2 c3
      · rw [if_pos (by omega), e5, if_pos (by omega), if_pos (by omega), ← h1 (by omega)]
        exact hj _ rfl c2 c3
    · rw [if_neg hc, List.drop_eq_nil_of_le (by omega)]
      rfl
theorem letters_f (ls : List S63) (k : Nat) (hk : 600 ≤ k) : stanzaref07_Letters.f k ls = some (chk ls) := by
  unfold stanzaref07_Letters.f chk
  by_cases h : ls.length ≤ 256
  · rw [if_neg (by omega), decide_eq_true h, Bool.true_and]
    exact let_run h ls.length 0 k (-1) (by omega) (Nat.zero_le _) (by omega) (by omega) (fun _ => rfl) (fun h => by omega)
  · rw [if_pos (by omega), decide_eq_false h, Bool.false_and]
def faultOf (s : ByteArray) (ls : List S63) (left right : Int) : Int × Int := if chk ls = false then (10, 0) else if left < 1 ∨ right < 1 ∨ 24 < left ∨ 24 < right then (40, 0) else (codeOf s, atOf s)
theorem newAny (s : ByteArray) (A : Option Addr) (c : Nat) (ls : List S63) (left right : Int) (w : World) (hl : Kd.C k63 w A ls.length ls) (hlc : ls.length ≤ c) (h8 : ls.length ≤ 1000000) :
    Calls Try.prog 26 #[.string s, .slice A ls.length c, .int .i64 left, .int .i64 right] w fun e w' => ∃ p, e = .returned (.tuple #[.pointer p, .agg #[.int .i64 (faultOf s ls left right).1, .int .i64 (faultOf s ls left right).2]]) ∧ (p = none ↔ (faultOf s ls left right).1 ≠ 0) ∧ Below w.heap.size w w' := by
  unfold faultOf
  by_cases h1 : chk ls = false
  · rw [if_pos h1]
    refine (new_bad1 40000 s A c ls left right w hl hlc (by rw [check_eq ls _ (by decide), h1])).mono ?_
    rintro e w' ⟨rfl, hb⟩
    exact ⟨none, rfl, by simp, hb⟩
  rw [if_neg h1]
  have h1' : hyph_Check.f 40000 ls = some true := by rw [check_eq ls _ (by decide)]; congr 1; simpa using h1
  by_cases h2 : left < 1 ∨ right < 1 ∨ 24 < left ∨ 24 < right
  · rw [if_pos h2]
    refine (new_bad2 40000 s A c ls left right w hl hlc h1' h2).mono ?_
    rintro e w' ⟨rfl, hb⟩
    exact ⟨none, rfl, by simp, hb⟩
  rw [if_neg h2]
  by_cases h3 : codeOf s = 0
  · refine (newC s A c ls left right w hl hlc h8 h1' (by omega) (by omega) h3).mono ?_
    rintro e w' ⟨b, La, Lc, bt, base, Wa, Wc, rfl, hH, hb⟩
    exact ⟨some ⟨b, 0, none⟩, by rw [h3, at_zero h3], by simp [h3], hb⟩
  · refine (newB s A c ls left right w hl hlc h1' (by omega) (by omega) h3).mono ?_
    rintro e w' ⟨rfl, hb⟩
    exact ⟨none, rfl, by simp [h3], hb⟩
theorem rnewAny (s : ByteArray) (A : Option Addr) (c : Nat) (ls : List S63) (left right : Int) (w : World) (hl : Kd.C k63 w A ls.length ls) (hlc : ls.length ≤ c) :
    Calls Try.prog 27 #[.string s, .slice A ls.length c, .int .i64 left, .int .i64 right] w fun e w' => ∃ A0 n0 c0 A1 n1 c1 A2 n2 c2 x y, e = .returned (.tuple #[.agg #[.slice A0 n0 c0, .slice A1 n1 c1, .slice A2 n2 c2, .int .i64 x, .int .i64 y], .int .i64 (faultOf s ls left right).1, .int .i64 (faultOf s ls left right).2]) ∧ Below w.heap.size w w' := by
  unfold faultOf
  by_cases h1 : chk ls = false
  · rw [if_pos h1]
    refine (rnew_bad1 RK s A c ls left right w hl hlc (by rw [letters_f ls _ (by decide), h1])).mono ?_
    rintro e w' ⟨rfl, hb⟩
    exact ⟨_, _, _, _, _, _, _, _, _, _, _, rfl, hb⟩
  rw [if_neg h1]
  have h1' : stanzaref07_Letters.f RK ls = some true := by rw [letters_f ls _ (by decide)]; congr 1; simpa using h1
  by_cases h2 : left < 1 ∨ right < 1 ∨ 24 < left ∨ 24 < right
  · rw [if_pos h2]
    refine (rnew_bad2 RK s A c ls left right w hl hlc h1' h2).mono ?_
    rintro e w' ⟨rfl, hb⟩
    exact ⟨_, _, _, _, _, _, _, _, _, _, _, rfl, hb⟩
  rw [if_neg h2]
  by_cases h3 : codeOf s = 0
  · refine (rnew_ok RK s A c ls left right (patsOf s) (toldOf s) (atOf s) w hl hlc h1' (by omega) (by omega) (by omega) (by omega) (by rw [rparse_eq s RK (Nat.le_refl _), ← h3])).mono ?_
    rintro e w' ⟨A0, c0, A1, c1, rfl, _, _, _, _, hb⟩
    rw [h3, at_zero h3]
    exact ⟨_, _, _, _, _, _, _, _, _, _, _, rfl, hb⟩
  · refine (rnew_bad3 RK s A c ls left right (patsOf s) (toldOf s) (codeOf s) (atOf s) w hl hlc h1' (by omega) (by omega) (by omega) (by omega) (rparse_eq s RK (Nat.le_refl _)) h3).mono ?_
    rintro e w' ⟨rfl, hb⟩
    exact ⟨_, _, _, _, _, _, _, _, _, _, _, rfl, hb⟩
end Go.Proofs.Ytoefjhdcipgacaa.Hy
end
section
namespace Go.Proofs.Ytoefjhdcipgacaa.Hy
open Go.RowKit Go.Proofs.YtoefjhdcipgacaaW.PrintWords Go.Proofs.YtoefjhdcipgacaaW.PrintLast Go.Proofs.YtoefjhdcipgacaaW.PrintMore
open Go.Proofs.Ytoefjhdcipgacaa.PA Go.Proofs.Ytoefjhdcipgacaa.Dec
attribute [local go_sem] max2_int min2_int max_two min_two
set_option linter.unusedSimpArgs false
set_option linter.unusedVariables false
set_option maxHeartbeats 8000000 in
set_option maxRecDepth 100000 in
theorem checks_walk (s : ByteArray) (ls : List S63) (A : Option Addr) (c : Nat) (left right : Int) (w : World) (hs : s.size ≤ 140737488351232) (hl : Kd.C k63 w A ls.length ls) (hlc : ls.length ≤ c) (_hq : ∀ x ∈ ls, Tr.In32 x.f0 ∧ Tr.In32 x.f1 ∧ -9223372036854775808 ≤ x.f2 ∧ x.f2 ≤ 9223372036854775807)
    (_h1 : -9223372036854775808 ≤ left ∧ left ≤ 9223372036854775807) (_h2 : -9223372036854775808 ≤ right ∧ right ≤ 9223372036854775807) :
    Calls Try.prog 11 #[.string s, .slice A ls.length c, .int .i64 left, .int .i64 right] w fun e w' => e = .returned (.bool true) ∧ Below w.heap.size w w' := by
  have HM := Kd.C_max hl
  have HL := Aside0.mk hl
  have HLc := Aside0.mk hlc
  clear hl hlc _hq _h1 _h2
  by_cases h500 : 500 < ls.length
  · have h500' : 500 < (ls.length : Int) := by omega
    have HM' := Aside0.mk HM
    clear HM h500
    go_enter Try.func11, Try.ntmps11
    go_wp2_with (go_at_call 24; refine (awake09_calls _).mono ?_; rintro e wa ⟨rfl, hb⟩; have HB := Aside0.mk hb; clear hb)
    go_ret
    exact ⟨rfl, HB.out⟩
  by_cases h10 : 10000 < s.size
  · have h10' : 10000 < (s.size : Int) := by omega
    have h500' : ¬ 500 < (ls.length : Int) := by omega
    clear h500 h10 HM
    go_enter Try.func11, Try.ntmps11
    go_wp2_with (go_at_call 24; refine (awake09_calls _).mono ?_; rintro e wa ⟨rfl, hb⟩; have HB := Aside0.mk hb; clear hb)
    go_ret
    exact ⟨rfl, HB.out⟩
  have h10' : ¬ 10000 < (s.size : Int) := by omega
  have h500' : ¬ 500 < (ls.length : Int) := by omega
  clear HM
  go_enter Try.func11, Try.ntmps11
  go_upto_region 5 with (go_at_call 24; refine (awake09_calls _).mono ?_; rintro e wa ⟨rfl, hb⟩; have HB := Aside0.mk hb; clear hb)
  obtain ⟨code, hcode⟩ : ∃ code, code = (faultOf s ls left right).1 := ⟨_, rfl⟩
  obtain ⟨at_, hat_⟩ : ∃ at_, at_ = (faultOf s ls left right).2 := ⟨_, rfl⟩
  have HCD := Aside0.mk hcode.symm
  have HAT := Aside0.mk hat_.symm
  clear hcode hat_
  go_cut [9, 10] (fun v9 v10 wc => ∃ p g10, v9 = .pointer p ∧ v10 = .pointer (some ⟨g10, 0, none⟩) ∧ Aside0 (p = none ↔ code ≠ 0) ∧ Aside0 (wc.heap[g10]? = some (.cells #[.int .i64 code, .int .i64 at_] 46 (0, 0))) ∧ Aside0 (Below w.heap.size w wc))
  case first =>
    go_wp2_with (first
      | ((with_reducible refine gate_dst (N := 26) rfl ?_); (refine Kd.R_lit k63 (w0 := wa) wa.heap.size 63 ?hg (N := 26) ?hd (xs := ([] : List S63)) (inner := []) (ok := fun _ => True) (okp := fun _ => True) ?hr ?hp (fun _ hk => hk) trivial (Below.refl _ _) (Nat.le_refl _) (by simp) ?_; (case hd => rfl); (case hg => rfl); (case hr => first | (go_simp; done) | (go_simp; rfl)); (case hp => exact Reps.none _ _); intro v5 w5 ho hb hg hat; clear hg hat; have HO := Aside0.mk ho; have HB5 := Aside0.mk hb; clear ho hb))
      | ((with_reducible refine gate_builtin (b := .append) (xs := #[.tmp 26, .tmp 27]) rfl ?_); at_builtin; (refine Kd.R_append_rows k63 (w0 := wa) wa.heap.size rfl (.tmp 26) (.tmp 27) 41 63 (.agg #[.int .i32 0, .int .i32 0, .int .i64 0]) 16 rfl Try.underlying41 info63 rfl (by decide) (by decide) v5 [] ls A ls.length c (fun _ => True) (fun _ => False) rfl rfl HO.out (Kd.C_below (Kd.C_below HL.out HB.out) HB5.out) (fun x cs h => by obtain rfl := k63_open h; exact k63_mkM _ _ _ x) (fun _ h => h.elim) (fun _ _ => trivial) HB5.out (below_size HB5.out) (by simp; omega) ?_; intro v7 w7 ho hb hg hat; clear hg hat; rw [List.nil_append] at ho; obtain ⟨A7, c7, hv_, hl_, hc_⟩ := Kd.R_reads ho; subst hv_; have HL7 := Aside0.mk hl_; have HC7 := Aside0.mk hc_; replace HB := Aside0.mk (below_step HB.out hb); clear ho hb HB5 HO hl_ hc_))
      | (go_at_call 26; refine (newAny s A7 c7 ls left right _ HC7.out HL7.out (by omega)).mono ?_; rw [HCD.out, HAT.out]; rintro e w8 ⟨p, rfl, hp, hb⟩; have HP := Aside0.mk hp; replace HB := Aside0.mk (below_step HB.out hb); clear hb hp)
      | ((with_reducible refine gate_dst (N := 10) rfl ?_); refine box_event ?hg (N := 10) ?hd (cs := #[.int .i64 0, .int .i64 0]) (t := 46) ?hr ?_; (case hd => rfl); (case hg => rfl); (case hr => first | (go_simp; done) | (go_simp; rfl)); intro g10 hg w9 hbox hb; have BK10 := Aside0.mk hbox; have GE10 := Aside0.mk (by rw [hg]; exact below_size HB.out : w.heap.size ≤ g10); replace HB := Aside0.mk (below_step HB.out hb); have hcz0 : w9.cell? ⟨g10, 0, none⟩ = some (.int .i64 0) := (blk_cell BK10.out 0).trans rfl; have hcz1 : w9.cell? ⟨g10, 1, none⟩ = some (.int .i64 0) := (blk_cell BK10.out 1).trans rfl; have hcf0 := blk_frozen BK10.out 0; have hcf1 := blk_frozen BK10.out 1; clear hb hbox hg))
    go_meet
    case rel => exact ⟨p, g10, rfl, rfl, HP, ⟨blk_put (cs := #[.int .i64 code, .int .i64 0]) (blk_put (cs := #[.int .i64 0, .int .i64 0]) (BK10.out) 0 _ rfl) 1 _ rfl⟩, ⟨below_set (below_set (HB.out) GE10.out) GE10.out⟩⟩
  case rest =>
    obtain ⟨p, g10, rfl, rfl, HP, BK10, HB'⟩ := hcut
    clear HB
    have HB := HB'
    clear HB'
    rename World => wz
    go_upto_region 6 with fail
    go_cut [12, 13] (fun v12 v13 wd => v12 = .int .i64 code ∧ v13 = .int .i64 at_ ∧ Aside0 (wd.heap[g10]? = some (.cells #[.int .i64 code, .int .i64 at_] 46 (0, 0))) ∧ Aside0 (Below w.heap.size w wd))
    case first =>
      go_wp2_with (first
        | (go_at_call 27; refine (rnewAny s A c ls left right _ (Kd.C_below HL.out HB.out) HLc.out).mono ?_; rw [HCD.out, HAT.out]; rintro e w8 ⟨A0, n0, c0, A1, n1, c1, A2, n2, c2, x, y, rfl, hb⟩; replace BK10 := Aside0.mk (blk_below BK10.out hb); replace HB := Aside0.mk (below_step HB.out hb); clear hb)
        | ((with_reducible refine gate_dst (N := 11) rfl ?_); refine box_event ?hg (N := 11) ?hd (cs := #[.slice none 0 0, .slice none 0 0, .slice none 0 0, .int .i64 0, .int .i64 0]) (t := 52) ?hr ?_; (case hd => rfl); (case hg => rfl); (case hr => first | (go_simp; done) | (go_simp; rfl)); intro g11 hg w9 hbox hb; have NB := Aside0.mk (by rw [hg]; exact Nat.ne_of_gt (blk_lt BK10.out) : g11 ≠ g10); have GE11 := Aside0.mk (by rw [hg]; exact below_size HB.out : w.heap.size ≤ g11); replace BK10 := Aside0.mk (blk_below BK10.out hb); have BK11 := Aside0.mk hbox; replace HB := Aside0.mk (below_step HB.out hb); have hdz0 : w9.cell? ⟨g11, 0, none⟩ = some (.slice none 0 0) := (blk_cell BK11.out 0).trans rfl; have hdz1 : w9.cell? ⟨g11, 1, none⟩ = some (.slice none 0 0) := (blk_cell BK11.out 1).trans rfl; have hdz2 : w9.cell? ⟨g11, 2, none⟩ = some (.slice none 0 0) := (blk_cell BK11.out 2).trans rfl; have hdz3 : w9.cell? ⟨g11, 3, none⟩ = some (.int .i64 0) := (blk_cell BK11.out 3).trans rfl; have hdz4 : w9.cell? ⟨g11, 4, none⟩ = some (.int .i64 0) := (blk_cell BK11.out 4).trans rfl; have hdf0 := blk_frozen BK11.out 0; have hdf1 := blk_frozen BK11.out 1; have hdf2 := blk_frozen BK11.out 2; have hdf3 := blk_frozen BK11.out 3; have hdf4 := blk_frozen BK11.out 4; clear hb hbox hg))
      go_meet
      case rel => exact ⟨rfl, rfl, ⟨blk_far (blk_far (blk_far (blk_far (blk_far (BK10.out) (Ne.symm NB.out) _) (Ne.symm NB.out) _) (Ne.symm NB.out) _) (Ne.symm NB.out) _) (Ne.symm NB.out) _⟩, ⟨below_set (below_set (below_set (below_set (below_set (HB.out) GE11.out) GE11.out) GE11.out) GE11.out) GE11.out⟩⟩
    case rest =>
      obtain ⟨rfl, rfl, BK10', HB'⟩ := hcut
      clear HB BK10
      have HB := HB'
      have BK10 := BK10'
      clear HB' BK10'
      obtain ⟨b, hb⟩ : ∃ b, b = chk ls := ⟨_, rfl⟩
      have HBC : Aside0 (hyph_Check.f 40000 ls = some b) := ⟨by rw [hb]; exact check_eq ls _ (by decide)⟩
      have HBL : Aside0 (stanzaref07_Letters.f 40000 ls = some b) := ⟨by rw [hb]; exact letters_f ls _ (by decide)⟩
      clear hb
      cases b with
      | false =>
        rcases p with _ | ad
        · have hne : code ≠ 0 := HP.out.1 rfl
          have hne1 : (code == 0) = false := by simpa using hne
          have hne2 : (code != 0) = true := by simpa using hne
          go_wp2_with (first
            | (go_at_call 34; refine (hyph_Check.calls 40000 A c ls false _ (Kd.C_below HL.out HB.out) HLc.out HBC.out).mono ?_; rintro e w8 ⟨rfl, hb⟩; replace BK10 := Aside0.mk (blk_below BK10.out hb); replace HB := Aside0.mk (below_step HB.out hb); clear hb)
            | (go_at_call 35; refine (stanzaref07_Letters.calls 40000 A c ls false _ (Kd.C_below HL.out HB.out) HLc.out HBL.out).mono ?_; rintro e w9 ⟨rfl, nd, hw9⟩; have hb : Below w8.heap.size w8 w9 := (by rw [hw9]; exact pw_below_drewN (Below.refl _ _) _); replace BK10 := Aside0.mk (blk_below BK10.out hb); replace HB := Aside0.mk (below_step HB.out hb); have q0 : w9.cell? ⟨g10, 0, none⟩ = some (.int .i64 code) := (blk_cell BK10.out 0).trans rfl; have q1 : w9.cell? ⟨g10, 1, none⟩ = some (.int .i64 at_) := (blk_cell BK10.out 1).trans rfl; clear hw9 hb))
          go_ret
          exact ⟨by simp [hne], HB.out⟩
        · have hne : code = 0 := Classical.byContradiction fun h => by have := HP.out.2 h; cases this
          subst hne
          go_wp2_with (first
            | (go_at_call 34; refine (hyph_Check.calls 40000 A c ls false _ (Kd.C_below HL.out HB.out) HLc.out HBC.out).mono ?_; rintro e w8 ⟨rfl, hb⟩; replace BK10 := Aside0.mk (blk_below BK10.out hb); replace HB := Aside0.mk (below_step HB.out hb); clear hb)
            | (go_at_call 35; refine (stanzaref07_Letters.calls 40000 A c ls false _ (Kd.C_below HL.out HB.out) HLc.out HBL.out).mono ?_; rintro e w9 ⟨rfl, nd, hw9⟩; have hb : Below w8.heap.size w8 w9 := (by rw [hw9]; exact pw_below_drewN (Below.refl _ _) _); replace BK10 := Aside0.mk (blk_below BK10.out hb); replace HB := Aside0.mk (below_step HB.out hb); have q0 : w9.cell? ⟨g10, 0, none⟩ = some (.int .i64 0) := (blk_cell BK10.out 0).trans rfl; have q1 : w9.cell? ⟨g10, 1, none⟩ = some (.int .i64 at_) := (blk_cell BK10.out 1).trans rfl; clear hw9 hb))
          go_ret
          exact ⟨by simp, HB.out⟩
      | true =>
        rcases p with _ | ad
        · have hne : code ≠ 0 := HP.out.1 rfl
          have hne1 : (code == 0) = false := by simpa using hne
          have hne2 : (code != 0) = true := by simpa using hne
          go_wp2_with (first
            | (go_at_call 34; refine (hyph_Check.calls 40000 A c ls true _ (Kd.C_below HL.out HB.out) HLc.out HBC.out).mono ?_; rintro e w8 ⟨rfl, hb⟩; replace BK10 := Aside0.mk (blk_below BK10.out hb); replace HB := Aside0.mk (below_step HB.out hb); clear hb)
            | (go_at_call 35; refine (stanzaref07_Letters.calls 40000 A c ls true _ (Kd.C_below HL.out HB.out) HLc.out HBL.out).mono ?_; rintro e w9 ⟨rfl, nd, hw9⟩; have hb : Below w8.heap.size w8 w9 := (by rw [hw9]; exact pw_below_drewN (Below.refl _ _) _); replace BK10 := Aside0.mk (blk_below BK10.out hb); replace HB := Aside0.mk (below_step HB.out hb); have q0 : w9.cell? ⟨g10, 0, none⟩ = some (.int .i64 code) := (blk_cell BK10.out 0).trans rfl; have q1 : w9.cell? ⟨g10, 1, none⟩ = some (.int .i64 at_) := (blk_cell BK10.out 1).trans rfl; clear hw9 hb))
          go_ret
          exact ⟨by simp [hne], HB.out⟩
        · have hne : code = 0 := Classical.byContradiction fun h => by have := HP.out.2 h; cases this
          subst hne
          go_wp2_with (first
            | (go_at_call 34; refine (hyph_Check.calls 40000 A c ls true _ (Kd.C_below HL.out HB.out) HLc.out HBC.out).mono ?_; rintro e w8 ⟨rfl, hb⟩; replace BK10 := Aside0.mk (blk_below BK10.out hb); replace HB := Aside0.mk (below_step HB.out hb); clear hb)
            | (go_at_call 35; refine (stanzaref07_Letters.calls 40000 A c ls true _ (Kd.C_below HL.out HB.out) HLc.out HBL.out).mono ?_; rintro e w9 ⟨rfl, nd, hw9⟩; have hb : Below w8.heap.size w8 w9 := (by rw [hw9]; exact pw_below_drewN (Below.refl _ _) _); replace BK10 := Aside0.mk (blk_below BK10.out hb); replace HB := Aside0.mk (below_step HB.out hb); have q0 : w9.cell? ⟨g10, 0, none⟩ = some (.int .i64 0) := (blk_cell BK10.out 0).trans rfl; have q1 : w9.cell? ⟨g10, 1, none⟩ = some (.int .i64 at_) := (blk_cell BK10.out 1).trans rfl; clear hw9 hb))
          go_ret
          exact ⟨by simp, HB.out⟩
end Go.Proofs.Ytoefjhdcipgacaa.Hy
end
