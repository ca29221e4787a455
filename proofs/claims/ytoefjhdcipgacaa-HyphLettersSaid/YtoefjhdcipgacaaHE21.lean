/-
  Part 21 of what the law HyphLetters rests on: contracts of the functions that it calls, and plain laws of what they compute.
-/
import Derived.Deep.RegionWith
import Derived.Test.YtoefjhdcipgacaaHE6
import Derived.Test.YtoefjhdcipgacaaHE7
import Derived.Test.YtoefjhdcipgacaaHE16
import Derived.Test.YtoefjhdcipgacaaHE17
import Derived.Test.YtoefjhdcipgacaaHE18
import Derived.Test.YtoefjhdcipgacaaHE19
import Derived.Test.YtoefjhdcipgacaaHE20
section
namespace Go.Proofs.Ytoefjhdcipgacaa.Hy
open Go.RowKit Go.Proofs.YtoefjhdcipgacaaW.PrintWords Go.Proofs.YtoefjhdcipgacaaW.PrintLast Go.Proofs.YtoefjhdcipgacaaW.PrintMore
open Go.Proofs.Ytoefjhdcipgacaa.PA
attribute [local go_sem] max2_int min2_int max_two min_two
theorem _root_.Go.Proofs.Ytoefjhdcipgacaa.Tr.TrieAt.set {w : World} {base bt g : Nat} {T : Tr.TM} (h : Tr.TrieAt w base bt T) (hg : g < base) (j : Nat) (u : Value) : Tr.TrieAt (w.setCell ⟨g, j, none⟩ u) base bt T := by
  obtain ⟨bn, cap, K, xs, ms, vs, hK, h⟩ := h
  exact ⟨bn, cap, K, xs, ms, vs, hK, h.move (fun k hk _ => Below.heap_setCell w ⟨g, j, none⟩ u k (by show k ≠ g; omega))⟩
set_option maxHeartbeats 8000000 in
set_option maxRecDepth 100000 in
theorem new_ok (k : Nat) (s : ByteArray) (A : Option Addr) (c : Nat) (ls : List S63) (left right : Int) (P W : List S39) (w : World) (hl : Kd.C k63 w A ls.length ls) (hlc : ls.length ≤ c) (h8 : ls.length ≤ 1000000) (hck : hyph_Check.f k ls = some true)
    (h1 : 1 ≤ left) (h2 : 1 ≤ right) (h3 : left ≤ 24) (h4 : right ≤ 24) (hpar : pats_Parse.f k s = some (P, W, 0, 0)) (hfit : Tr.Fit P) :
    Calls Try.prog 26 #[.string s, .slice A ls.length c, .int .i64 left, .int .i64 right] w fun e w' => ∃ b La Lc bt base Wa Wc, e = .returned (.tuple #[.pointer (some ⟨b, 0, none⟩), .agg #[.int .i64 0, .int .i64 0]]) ∧ HyphAt w' b ls (Tr.make (P.map Tr.pq)) W left right La Lc bt base Wa Wc ∧ Below w.heap.size w w' := by
  have HL := Aside0.mk hl
  have HLc := Aside0.mk hlc
  have HL8 := Aside0.mk h8
  have HK := Aside0.mk hck
  have HP := Aside0.mk hpar
  have HF := Aside0.mk hfit
  clear hl hlc h8 hck hpar hfit
  go_enter Try.func26, Try.ntmps26
  go_upto_region 5 with (first
    | ((with_reducible refine gate_dst (N := 9) rfl ?_); refine box_event ?hg (N := 9) ?hd (cs := #[.int .i64 0, .int .i64 0]) (t := 46) ?hr ?_; (case hd => rfl); (case hg => rfl); (case hr => first | (go_simp; done) | (go_simp; rfl)); intro g9 hg w1 hbox hb; have HB := Aside0.mk hb; have BK9 := Aside0.mk hbox; have GE9 := Aside0.mk (Nat.le_of_eq hg.symm : w.heap.size ≤ g9); clear hb hbox hg)
    | (go_at_call 34; refine (hyph_Check.calls k A c ls true _ (Kd.C_below HL.out HB.out) HLc.out HK.out).mono ?_; rintro e w2 ⟨rfl, hb⟩; replace BK9 := Aside0.mk (blk_below BK9.out hb); replace HB := Aside0.mk (below_step HB.out hb); clear hb))
  go_cut [10, 11] (fun v10 v11 wc => ∃ g10 g11 Ap cp Aw cw, v10 = .pointer (some ⟨g10, 0, none⟩) ∧ v11 = .pointer (some ⟨g11, 0, none⟩) ∧ Aside0 (wc.heap[g10]? = some (.cells #[.slice Ap P.length cp, .slice Aw W.length cw] 50 (0, 0))) ∧ Aside0 (wc.heap[g11]? = some (.cells #[.int .i64 0, .int .i64 0] 46 (0, 0))) ∧ Aside0 (wc.heap[g9]? = some (.cells #[.int .i64 0, .int .i64 0] 46 (0, 0))) ∧ Aside0 (Kd.S k39 39 wc w.heap.size (fun _ => True) (.slice Ap P.length cp) P) ∧ Aside0 (Kd.S k39 39 wc w.heap.size (fun _ => True) (.slice Aw W.length cw) W) ∧ Aside0 (Below w.heap.size w wc))
  case first =>
    go_wp2_with (first
    | (go_at_call 41; refine (pats_Parse.calls k s P W 0 0 _ HP.out).mono ?_; rintro e w3 ⟨v0, v1, rfl, hs0, hs1, hb⟩; obtain ⟨Ap, cp, rfl⟩ := Kd.S_slice hs0; obtain ⟨Aw, cw, rfl⟩ := Kd.S_slice hs1; have HS0 := Aside0.mk (Kd.S_lower (Kd.S_mono (ok' := fun _ => True) hs0 (fun _ _ => trivial)) (below_size HB.out)); have HS1 := Aside0.mk (Kd.S_lower (Kd.S_mono (ok' := fun _ => True) hs1 (fun _ _ => trivial)) (below_size HB.out)); replace BK9 := Aside0.mk (blk_below BK9.out hb); replace HB := Aside0.mk (below_step HB.out hb); clear hb hs0 hs1)
    | ((with_reducible refine gate_dst (N := 10) rfl ?_); refine box_event ?hg (N := 10) ?hd (cs := #[.slice none 0 0, .slice none 0 0]) (t := 50) ?hr ?_; (case hd => rfl); (case hg => rfl); (case hr => first | (go_simp; done) | (go_simp; rfl)); intro g10 hg w4 hbox hb; replace HS0 := Aside0.mk (Kd.S_below HS0.out hb); replace HS1 := Aside0.mk (Kd.S_below HS1.out hb); replace BK9 := Aside0.mk (blk_below BK9.out hb); have BK10 := Aside0.mk hbox; have GE10 := Aside0.mk (by rw [hg]; exact below_size HB.out : w.heap.size ≤ g10); replace HB := Aside0.mk (below_step HB.out hb); clear hb hbox hg)
    | ((with_reducible refine gate_dst (N := 11) rfl ?_); refine box_event ?hg (N := 11) ?hd (cs := #[.int .i64 0, .int .i64 0]) (t := 46) ?hr ?_; (case hd => rfl); (case hg => rfl); (case hr => first | (go_simp; done) | (go_simp; rfl)); intro g11 hg w5 hbox hb; have NB := Aside0.mk (by rw [hg]; exact Nat.ne_of_lt (blk_lt BK9.out) : g9 ≠ g11); replace HS0 := Aside0.mk (Kd.S_below HS0.out hb); replace HS1 := Aside0.mk (Kd.S_below HS1.out hb); replace BK9 := Aside0.mk (blk_below BK9.out hb); replace BK10 := Aside0.mk (blk_below BK10.out hb); have BK11 := Aside0.mk hbox; have GE11 := Aside0.mk (by rw [hg]; exact below_size HB.out : w.heap.size ≤ g11); replace HB := Aside0.mk (below_step HB.out hb); have hcz0 : w5.cell? ⟨g10, 0, none⟩ = some (.slice none 0 0) := (blk_cell BK10.out 0).trans rfl; have hcz1 : w5.cell? ⟨g10, 1, none⟩ = some (.slice none 0 0) := (blk_cell BK10.out 1).trans rfl; have hfz0 := blk_frozen BK10.out 0; have hfz1 := blk_frozen BK10.out 1; have hdz0 : w5.cell? ⟨g11, 0, none⟩ = some (.int .i64 0) := (blk_cell BK11.out 0).trans rfl; have hdz1 : w5.cell? ⟨g11, 1, none⟩ = some (.int .i64 0) := (blk_cell BK11.out 1).trans rfl; have hez0 := blk_frozen BK11.out 0; have hez1 := blk_frozen BK11.out 1; have hnb := blk_ne BK10.out BK11.out (by decide); have hnc := Ne.symm hnb; clear hb hbox hg))
    go_meet
    case rel =>
      refine ⟨g10, g11, Ap, cp, Aw, cw, rfl, rfl, ⟨?_⟩, ⟨?_⟩, ⟨?_⟩, ⟨?_⟩, ⟨?_⟩, ⟨?_⟩⟩
      · refine blk_far (blk_far (blk_put (cs := #[.slice Ap P.length cp, .slice none 0 0]) (blk_put (cs := #[.slice none 0 0, .slice none 0 0]) BK10.out 0 _ rfl) 1 _ rfl) hnb _) hnb _
      · refine blk_put (cs := #[.int .i64 0, .int .i64 0]) (blk_put (cs := #[.int .i64 0, .int .i64 0]) (blk_far (blk_far BK11.out hnc _) hnc _) 0 _ rfl) 1 _ rfl
      · refine blk_far (blk_far (blk_far (blk_far BK9.out ?_ _) ?_ _) NB.out _) NB.out _ <;> exact Ne.symm (blk_ne BK10.out BK9.out (by decide))
      · exact Kd.S_far (p := ⟨g11, 1, none⟩) (Kd.S_far (p := ⟨g11, 0, none⟩) (Kd.S_far (p := ⟨g10, 1, none⟩) (Kd.S_far (p := ⟨g10, 0, none⟩) (Kd.S_types (Kd.S_types HS0.out BK10.out (by decide)) BK11.out (by decide)) (fun _ hk => hk.1.2) _) (fun _ hk => hk.1.2) _) (fun _ hk => hk.2) _) (fun _ hk => hk.2) _ |> fun h => Kd.S_mono h (fun _ _ => trivial)
      · exact Kd.S_far (p := ⟨g11, 1, none⟩) (Kd.S_far (p := ⟨g11, 0, none⟩) (Kd.S_far (p := ⟨g10, 1, none⟩) (Kd.S_far (p := ⟨g10, 0, none⟩) (Kd.S_types (Kd.S_types HS1.out BK10.out (by decide)) BK11.out (by decide)) (fun _ hk => hk.1.2) _) (fun _ hk => hk.1.2) _) (fun _ hk => hk.2) _) (fun _ hk => hk.2) _ |> fun h => Kd.S_mono h (fun _ _ => trivial)
      · exact below_set (below_set (below_set (below_set HB.out GE10.out) GE10.out) GE11.out) GE11.out
  case rest =>
    obtain ⟨g10, g11, Ap, cp, Aw, cw, rfl, rfl, BK10, BK11, BK9', HS0, HS1, HB'⟩ := hcut
    clear HB BK9
    have HB := HB'
    have BK9 := BK9'
    clear HB' BK9'
    have hdz0 : wc.cell? ⟨g11, 0, none⟩ = some (.int .i64 0) := (blk_cell BK11.out 0).trans rfl
    have hdz1 : wc.cell? ⟨g11, 1, none⟩ = some (.int .i64 0) := (blk_cell BK11.out 1).trans rfl
    go_upto_region 8 with fail
    clear hdz0 hdz1
    have hD := below_drew (Below.refl wc.heap.size wc)
    have q0 : wc.cell? ⟨g10, 0, none⟩ = some (.slice Ap P.length cp) := (blk_cell BK10.out 0).trans rfl
    have q1 : wc.cell? ⟨g10, 1, none⟩ = some (.slice Aw W.length cw) := (blk_cell BK10.out 1).trans rfl
    replace BK9 := Aside0.mk (blk_below BK9.out hD)
    replace BK10 := Aside0.mk (blk_below BK10.out hD)
    replace HS0 := Aside0.mk (Kd.S_drew HS0.out)
    replace HS1 := Aside0.mk (Kd.S_drew HS1.out)
    replace HB := Aside0.mk (below_drew HB.out)
    clear hD BK11
    go_region_with (first
      | (go_at_call 42; refine Calls.mono (clone_calls ls A c _ (Kd.C_below HL.out HB.out) HL8.out) ?_; rintro e w6 ⟨v6, rfl, hr, hb⟩; obtain ⟨La, Lc, rfl⟩ := Kd.R_slice hr; have HR := Aside0.mk (Kd.R_lower hr (below_size HB.out)); replace BK9 := Aside0.mk (blk_below BK9.out hb); replace BK10 := Aside0.mk (blk_below BK10.out hb); replace HS0 := Aside0.mk (Kd.S_below HS0.out hb); replace HS1 := Aside0.mk (Kd.S_below HS1.out hb); replace HB := Aside0.mk (below_step HB.out hb); have q2 : w6.cell? ⟨g10, 0, none⟩ = some (.slice Ap P.length cp) := (blk_cell BK10.out 0).trans rfl; have q3 : w6.cell? ⟨g10, 1, none⟩ = some (.slice Aw W.length cw) := (blk_cell BK10.out 1).trans rfl; clear hb hr)
      | (go_at_call 19; refine Calls.mono (Tr.make_fit P Ap cp _ (Kd.S_reads' HS0.out).2.2 (Kd.S_reads' HS0.out).2.1 HF.out) ?_; rintro e w7 ⟨bt, rfl, hT, hb⟩; have HT := Aside0.mk hT; have NB9 := Aside0.mk (blk_lt BK9.out); replace BK9 := Aside0.mk (blk_below BK9.out hb); replace BK10 := Aside0.mk (blk_below BK10.out hb); replace HS0 := Aside0.mk (Kd.S_below HS0.out hb); replace HS1 := Aside0.mk (Kd.S_below HS1.out hb); replace HR := Aside0.mk (Kd.R_below HR.out hb); replace HB := Aside0.mk (below_step HB.out hb); have q4 : w7.cell? ⟨g10, 0, none⟩ = some (.slice Ap P.length cp) := (blk_cell BK10.out 0).trans rfl; have q5 : w7.cell? ⟨g10, 1, none⟩ = some (.slice Aw W.length cw) := (blk_cell BK10.out 1).trans rfl; have ha := blk_alloc BK9.out (.cells #[.slice La ls.length Lc, .pointer (some ⟨bt, 0, none⟩), .slice Aw W.length cw, .int .i64 left, .int .i64 right] 95); have hcz0 : (w7.alloc (.cells #[.slice La ls.length Lc, .pointer (some ⟨bt, 0, none⟩), .slice Aw W.length cw, .int .i64 left, .int .i64 right] 95)).cell? ⟨g9, 0, none⟩ = some (.int .i64 0) := (blk_cell ha 0).trans rfl; have hcz1 : (w7.alloc (.cells #[.slice La ls.length Lc, .pointer (some ⟨bt, 0, none⟩), .slice Aw W.length cw, .int .i64 left, .int .i64 right] 95)).cell? ⟨g9, 1, none⟩ = some (.int .i64 0) := (blk_cell ha 1).trans rfl; have hfz0 := blk_frozen ha 0; have hfz1 := blk_frozen ha 1; clear ha; clear hb hT))
    all_goals go_wp2_with fail
    all_goals
      have ha := blk_alloc BK9.out (.cells #[.slice La ls.length Lc, .pointer (some ⟨bt, 0, none⟩), .slice Aw W.length cw, .int .i64 left, .int .i64 right] 95)
      have ne : w7.heap.size ≠ g9 := Nat.ne_of_gt (blk_lt BK9.out)
      refine bodyPost_ret (results_tc rfl _ _ g9 46 #[.int .i64 0, .int .i64 0] (0, 0) _ rfl (blk_put (cs := #[.int .i64 0, .int .i64 0]) (blk_put (cs := #[.int .i64 0, .int .i64 0]) ha 0 _ rfl) 1 _ rfl) Try.underlying46 rfl (by kernel_rfl)) rfl ?_
      have x1 := blk_far (blk_far (blk_new w7 (.cells #[.slice La ls.length Lc, .pointer (some ⟨bt, 0, none⟩), .slice Aw W.length cw, .int .i64 left, .int .i64 right] 95)) ne (p := ⟨g9, 0, none⟩) (.int .i64 0)) ne (p := ⟨g9, 1, none⟩) (.int .i64 0)
      have x2 := (Kd.R_reads' (Kd.R_far (p := ⟨g9, 1, none⟩) (Kd.R_far (p := ⟨g9, 0, none⟩) (Kd.R_types (Kd.R_alloc HR.out _) ha (by decide)) (fun _ hk => hk.2) (.int .i64 0)) (fun _ hk => hk.2) (.int .i64 0))).2.2
      have x3 := ((HT.out.below (below_alloc (Below.refl _ _) (.cells #[.slice La ls.length Lc, .pointer (some ⟨bt, 0, none⟩), .slice Aw W.length cw, .int .i64 left, .int .i64 right] 95))).set NB9.out 0 (.int .i64 0)).set NB9.out 1 (.int .i64 0)
      have x4 := (Kd.S_reads' (Kd.S_far (p := ⟨g9, 1, none⟩) (Kd.S_far (p := ⟨g9, 0, none⟩) (Kd.S_types (Kd.S_alloc HS1.out _) ha (by decide)) (fun _ hk => hk.2) (.int .i64 0)) (fun _ hk => hk.2) (.int .i64 0))).2.2
      exact ⟨w7.heap.size, La, Lc, bt, _, Aw, cw, rfl, ⟨x1, x2, x3, x4, (Kd.S_reads' HS1.out).2.1⟩, below_set (below_set (below_alloc HB.out _) GE9.out) GE9.out⟩
end Go.Proofs.Ytoefjhdcipgacaa.Hy
end
section
namespace Go.Proofs.Ytoefjhdcipgacaa.Hy
open Go.RowKit Go.Proofs.YtoefjhdcipgacaaW.PrintWords Go.Proofs.YtoefjhdcipgacaaW.PrintLast Go.Proofs.YtoefjhdcipgacaaW.PrintMore
open Go.Proofs.Ytoefjhdcipgacaa.PA
attribute [local go_sem] max2_int min2_int max_two min_two
set_option linter.unusedSimpArgs false
set_option linter.unusedVariables false
def awP : List S39 := [⟨[104, 121, 112], [0, 0, 1, 0]⟩]
def awW : List S39 := [⟨[116, 97, 98, 108, 101], [0, 0, 1, 0, 0, 0]⟩]
def lowL : List S63 := [⟨97, 122, 97⟩]
set_option maxRecDepth 100000 in
theorem aw_parse : pats_Parse.f 40 { data := #[104, 121, 49, 112, 32, 116, 97, 45, 98, 108, 101] } = some (awP, awW, 0, 0) := by kernel_rfl
theorem low_check : hyph_Check.f 40 lowL = some true := by kernel_rfl
theorem aw_fit : Tr.Fit awP := by
  refine ⟨by decide, fun p hp => ?_⟩
  simp only [awP, List.mem_cons, List.not_mem_nil, or_false] at hp
  subst hp
  refine ⟨by decide, by decide, fun r hr => ?_, by decide⟩
  simp only [List.mem_cons, List.not_mem_nil, or_false] at hr
  rcases hr with rfl | rfl | rfl <;> exact ⟨by decide, by decide⟩
theorem aw_told : ∀ p ∈ awW, p.f1.length = p.f0.length + 1 := by decide
def hyphen : List Int := [104, 121, 112, 104, 101, 110]
def table : List Int := [116, 97, 98, 108, 101]
theorem word_of {l : List Int} (h : l.length ≤ 1000) (h2 : ∀ r ∈ l, -2147483648 ≤ r ∧ r ≤ 2147483647) : Tr.Word l := ⟨h, h2⟩
theorem hyphen_word : Tr.Word hyphen := word_of (by decide) (by decide)
theorem table_word : Tr.Word table := word_of (by decide) (by decide)
theorem aw_1 : pts (wordVals awP awW hyphen) 6 2 2 = [false, false, true, false, false, false, false] := by decide +kernel
theorem aw_2 : pts (wordVals awP awW table) 5 2 2 = [false, false, true, false, false, false] := by decide +kernel
theorem aw_3 : pts (wordVals awP awW table) 5 2 4 = [false, false, false, false, false, false] := by decide +kernel
set_option maxHeartbeats 8000000 in
set_option maxRecDepth 100000 in
theorem awake09_calls (w : World) : Calls Try.prog 24 #[] w fun e w' => e = .returned (.bool true) ∧ Below w.heap.size w w' := by
  have HB := Aside0.mk (Below.refl w.heap.size w)
  go_enter Try.func24, Try.ntmps24
  go_upto_region 1 with fail
  go_cut [1, 2] (fun v1 v2 wc => ∃ b La Lc bt base Wa Wc g2, v1 = .pointer (some ⟨b, 0, none⟩) ∧ v2 = .pointer (some ⟨g2, 0, none⟩) ∧ Aside0 (HyphAt wc b lowL (Tr.make (awP.map Tr.pq)) awW 2 2 La Lc bt base Wa Wc) ∧ Aside0 (wc.heap[g2]? = some (.cells #[.int .i64 0, .int .i64 0] 46 (0, 0))) ∧ Aside0 (Below w.heap.size w wc))
  case first =>
    go_wp2_with (first
      | ((with_reducible refine gate_callee (f := 36) rfl ?_); (refine goesL_ (some 9) rfl rfl Try.func36 (by kernel_rfl) rfl #[] rfl (by (try simp only [List.map_toArray, List.map_cons, List.map_nil]); first | done | rfl) ?_; refine (stanzalaw09_low.calls lowL _ rfl).mono ?_; rintro e wa ⟨v, rfl, hr, hb⟩; refine ⟨_, rfl, ?_⟩; obtain ⟨Al, cl, hv_, hl_, hc_⟩ := Kd.R_reads hr; subst hv_; have HLl := Aside0.mk hl_; have HLc := Aside0.mk hc_; replace HB := Aside0.mk (below_step HB.out hb); clear hb hr hl_ hc_))
      | ((with_reducible refine gate_callee (f := 26) rfl ?_); (refine goesL_ (some 10) rfl rfl Try.func26 (by kernel_rfl) rfl #[.string { data := #[104, 121, 49, 112, 32, 116, 97, 45, 98, 108, 101] }, .slice Al lowL.length cl, .int .i64 2, .int .i64 2] rfl (by (try simp only [List.map_toArray, List.map_cons, List.map_nil]); first | done | rfl) ?_; refine (new_ok 40 _ Al cl lowL 2 2 awP awW _ HLc.out HLl.out (by decide) low_check (by decide) (by decide) (by decide) (by decide) aw_parse aw_fit).mono ?_; rintro e wb ⟨b, La, Lc, bt, base, Wa, Wc, rfl, hH, hb⟩; refine ⟨_, rfl, ?_⟩; have HH := Aside0.mk hH; replace HB := Aside0.mk (below_step HB.out hb); clear hb hH HLl HLc))
      | ((with_reducible refine gate_dst (N := 2) rfl ?_); refine box_event ?hg (N := 2) ?hd (cs := #[.int .i64 0, .int .i64 0]) (t := 46) ?hr ?_; (case hd => rfl); (case hg => rfl); (case hr => first | (go_simp; done) | (go_simp; rfl)); intro gx hg wc1 hbox hb; have GE := Aside0.mk (by rw [hg]; exact below_size HB.out : w.heap.size ≤ gx); have GH := Aside0.mk (Nat.le_of_eq hg.symm : wb.heap.size ≤ gx); have BKx := Aside0.mk hbox; have HBb := Aside0.mk hb; replace HB := Aside0.mk (below_step HB.out hb); have hcz0 : wc1.cell? ⟨gx, 0, none⟩ = some (.int .i64 0) := (blk_cell hbox 0).trans rfl; have hcz1 : wc1.cell? ⟨gx, 1, none⟩ = some (.int .i64 0) := (blk_cell hbox 1).trans rfl; have hfz0 := blk_frozen hbox 0; have hfz1 := blk_frozen hbox 1; clear hb hbox hg))
    go_meet
    case rel =>
      refine ⟨b, La, Lc, bt, base, Wa, Wc, gx, rfl, rfl, ⟨HH.out.below (below_set (below_set HBb.out GH.out) GH.out)⟩, ⟨?_⟩, ⟨below_set (below_set HB.out GE.out) GE.out⟩⟩
      exact blk_put (cs := #[.int .i64 0, .int .i64 0]) (blk_put (cs := #[.int .i64 0, .int .i64 0]) BKx.out 0 _ rfl) 1 _ rfl
  case rest =>
    obtain ⟨b1, La1, Lc1, bt1, base1, Wa1, Wc1, g2, rfl, rfl, HH1, BK2, HB'⟩ := hcut
    clear HB
    have HB := HB'
    clear HB'
    rename World => wz
    go_upto_region 2 with fail
    go_cut [3, 4] (fun v3 v4 wc => ∃ b La Lc bt base Wa Wc g4, v3 = .pointer (some ⟨b, 0, none⟩) ∧ v4 = .pointer (some ⟨g4, 0, none⟩) ∧ Aside0 (HyphAt wc b1 lowL (Tr.make (awP.map Tr.pq)) awW 2 2 La1 Lc1 bt1 base1 Wa1 Wc1) ∧ Aside0 (HyphAt wc b lowL (Tr.make (awP.map Tr.pq)) awW 2 4 La Lc bt base Wa Wc) ∧ Aside0 (wc.heap[g2]? = some (.cells #[.int .i64 0, .int .i64 0] 46 (0, 0))) ∧ Aside0 (wc.heap[g4]? = some (.cells #[.int .i64 0, .int .i64 0] 46 (0, 0))) ∧ Aside0 (Below w.heap.size w wc))
    case first =>
      go_wp2_with (first
      | ((with_reducible refine gate_callee (f := 36) rfl ?_); (refine goesL_ (some 14) rfl rfl Try.func36 (by kernel_rfl) rfl #[] rfl (by (try simp only [List.map_toArray, List.map_cons, List.map_nil]); first | done | rfl) ?_; refine (stanzalaw09_low.calls lowL _ rfl).mono ?_; rintro e wa ⟨v, rfl, hr, hb⟩; refine ⟨_, rfl, ?_⟩; obtain ⟨Al, cl, hv_, hl_, hc_⟩ := Kd.R_reads hr; subst hv_; have HLl := Aside0.mk hl_; have HLc := Aside0.mk hc_; replace HB := Aside0.mk (below_step HB.out hb); replace HH1 := Aside0.mk (HH1.out.below hb); replace BK2 := Aside0.mk (blk_below BK2.out hb); clear hb hr hl_ hc_))
      | ((with_reducible refine gate_callee (f := 26) rfl ?_); (refine goesL_ (some 15) rfl rfl Try.func26 (by kernel_rfl) rfl #[.string { data := #[104, 121, 49, 112, 32, 116, 97, 45, 98, 108, 101] }, .slice Al lowL.length cl, .int .i64 2, .int .i64 4] rfl (by (try simp only [List.map_toArray, List.map_cons, List.map_nil]); first | done | rfl) ?_; refine (new_ok 40 _ Al cl lowL 2 4 awP awW _ HLc.out HLl.out (by decide) low_check (by decide) (by decide) (by decide) (by decide) aw_parse aw_fit).mono ?_; rintro e wb ⟨b, La, Lc, bt, base, Wa, Wc, rfl, hH, hb⟩; refine ⟨_, rfl, ?_⟩; have HH := Aside0.mk hH; replace HB := Aside0.mk (below_step HB.out hb); replace HH1 := Aside0.mk (HH1.out.below hb); replace BK2 := Aside0.mk (blk_below BK2.out hb); clear hb hH HLl HLc))
      | ((with_reducible refine gate_dst (N := 4) rfl ?_); refine box_event ?hg (N := 4) ?hd (cs := #[.int .i64 0, .int .i64 0]) (t := 46) ?hr ?_; (case hd => rfl); (case hg => rfl); (case hr => first | (go_simp; done) | (go_simp; rfl)); intro gx hg wc1 hbox hb; have GE := Aside0.mk (by rw [hg]; exact below_size HB.out : w.heap.size ≤ gx); have GH := Aside0.mk (Nat.le_of_eq hg.symm : wb.heap.size ≤ gx); have BKx := Aside0.mk hbox; have HBb := Aside0.mk hb; replace HB := Aside0.mk (below_step HB.out hb); have hcz0 : wc1.cell? ⟨gx, 0, none⟩ = some (.int .i64 0) := (blk_cell hbox 0).trans rfl; have hcz1 : wc1.cell? ⟨gx, 1, none⟩ = some (.int .i64 0) := (blk_cell hbox 1).trans rfl; have hfz0 := blk_frozen hbox 0; have hfz1 := blk_frozen hbox 1; clear hb hbox hg))
      go_meet
      case rel =>
        refine ⟨b, La, Lc, bt, base, Wa, Wc, gx, rfl, rfl, ⟨HH1.out.below (below_set (below_set HBb.out GH.out) GH.out)⟩, ⟨HH.out.below (below_set (below_set HBb.out GH.out) GH.out)⟩, ⟨blk_below BK2.out (below_set (below_set HBb.out GH.out) GH.out)⟩, ⟨?_⟩, ⟨below_set (below_set HB.out GE.out) GE.out⟩⟩
        exact blk_put (cs := #[.int .i64 0, .int .i64 0]) (blk_put (cs := #[.int .i64 0, .int .i64 0]) BKx.out 0 _ rfl) 1 _ rfl
    case rest =>
      obtain ⟨b2, La2, Lc2, bt2, base2, Wa2, Wc2, g4, rfl, rfl, HH1', HH2, BK2', BK4, HB'⟩ := hcut
      clear HB HH1 BK2
      rename World => wy
      have q2 : wy.cell? ⟨g2, 0, none⟩ = some (.int .i64 0) := (blk_cell BK2'.out 0).trans rfl
      have q4 : wy.cell? ⟨g4, 0, none⟩ = some (.int .i64 0) := (blk_cell BK4.out 0).trans rfl
      go_upto_region 5 with fail
      clear q2 q4 BK2' BK4
      have HB := HB'
      have HH1 := HH1'
      clear HB' HH1'
      go_cut [5, 6, 7] (fun v5 v6 v7 wc => ∃ A5 c5 A6 c6 A7 c7, v5 = .slice A5 7 c5 ∧ v6 = .slice A6 6 c6 ∧ v7 = .slice A7 6 c7 ∧ Aside0 (Kd.C Kd.bool wc A5 7 [false, false, true, false, false, false, false]) ∧ Aside0 (Kd.C Kd.bool wc A6 6 [false, false, true, false, false, false]) ∧ Aside0 (Kd.C Kd.bool wc A7 6 [false, false, false, false, false, false]) ∧ Aside0 (Below w.heap.size w wc))
      case first =>
        go_wp2_with (first
          | ((with_reducible refine gate_dst (N := 27) rfl ?_); (refine Kd.R_lit (Kd.int .i32) (w0 := w) w.heap.size 21 ?hg (N := 27) ?hd (xs := hyphen) (inner := [.int .i32 104, .int .i32 121, .int .i32 112, .int .i32 104, .int .i32 101, .int .i32 110]) (ok := fun _ => True) (okp := fun _ => True) ?hr ?hp (fun _ hk => hk) trivial HB.out (below_size HB.out) (by decide) ?_; (case hd => rfl); (case hg => rfl); (case hr => first | (go_simp; done) | (go_simp; rfl)); (case hp => exact (Reps.one (show Kd.M (Kd.int .i32) _ _ _ 104 [.int .i32 104] from rfl) (Reps.one (show Kd.M (Kd.int .i32) _ _ _ 121 [.int .i32 121] from rfl) (Reps.one (show Kd.M (Kd.int .i32) _ _ _ 112 [.int .i32 112] from rfl) (Reps.one (show Kd.M (Kd.int .i32) _ _ _ 104 [.int .i32 104] from rfl) (Reps.one (show Kd.M (Kd.int .i32) _ _ _ 101 [.int .i32 101] from rfl) (Reps.one (show Kd.M (Kd.int .i32) _ _ _ 110 [.int .i32 110] from rfl) (Reps.none _ _)))))))); intro v27 w27 ho hb_ hg_ hn_; clear hn_; obtain ⟨A27, c27, hv_, hl_, hc_⟩ := Kd.R_reads ho; subst hv_; have HL27 := Aside0.mk hl_; have HC27 := Aside0.mk hc_; have hb := below_none hg_; replace HH1 := Aside0.mk (HH1.out.below hb); replace HH2 := Aside0.mk (HH2.out.below hb); replace HB := Aside0.mk hb_; clear ho hb_ hg_ hl_ hc_ hb))
          | ((with_reducible refine gate_callee (f := 33) rfl ?_); (refine goesL_ (some 28) rfl rfl Try.func33 (by kernel_rfl) rfl #[.pointer (some ⟨b1, 0, none⟩), .slice A27 hyphen.length c27] rfl (by (try simp only [List.map_toArray, List.map_cons, List.map_nil]); first | done | rfl) ?_; refine (word_calls b1 lowL awP awW 2 2 La1 Lc1 bt1 base1 Wa1 Wc1 A27 c27 hyphen _ HH1.out HC27.out HL27.out aw_fit hyphen_word (by decide) (by decide) aw_told).mono ?_; rintro e wa ⟨v, rfl, hr, hb⟩; refine ⟨_, rfl, ?_⟩; rw [show hyphen.length = 6 from rfl, aw_1] at hr; obtain ⟨A5, c5, hv_, hl_, hc_⟩ := Kd.R_reads hr; subst hv_; have HC5 := Aside0.mk hc_; replace HH1 := Aside0.mk (HH1.out.below hb); replace HH2 := Aside0.mk (HH2.out.below hb); replace HB := Aside0.mk (below_step HB.out hb); clear hb hr hl_ hc_))
          | ((with_reducible refine gate_dst (N := 30) rfl ?_); (refine Kd.R_lit (Kd.int .i32) (w0 := w) w.heap.size 21 ?hg (N := 30) ?hd (xs := table) (inner := [.int .i32 116, .int .i32 97, .int .i32 98, .int .i32 108, .int .i32 101]) (ok := fun _ => True) (okp := fun _ => True) ?hr ?hp (fun _ hk => hk) trivial HB.out (below_size HB.out) (by decide) ?_; (case hd => rfl); (case hg => rfl); (case hr => first | (go_simp; done) | (go_simp; rfl)); (case hp => exact (Reps.one (show Kd.M (Kd.int .i32) _ _ _ 116 [.int .i32 116] from rfl) (Reps.one (show Kd.M (Kd.int .i32) _ _ _ 97 [.int .i32 97] from rfl) (Reps.one (show Kd.M (Kd.int .i32) _ _ _ 98 [.int .i32 98] from rfl) (Reps.one (show Kd.M (Kd.int .i32) _ _ _ 108 [.int .i32 108] from rfl) (Reps.one (show Kd.M (Kd.int .i32) _ _ _ 101 [.int .i32 101] from rfl) (Reps.none _ _))))))); intro v30 w30 ho hb_ hg_ hn_; clear hn_; obtain ⟨A30, c30, hv_, hl_, hc_⟩ := Kd.R_reads ho; subst hv_; have HL30 := Aside0.mk hl_; have HC30 := Aside0.mk hc_; have hb := below_none hg_; replace HC5 := Aside0.mk (Kd.C_below HC5.out hb); replace HH1 := Aside0.mk (HH1.out.below hb); replace HH2 := Aside0.mk (HH2.out.below hb); replace HB := Aside0.mk hb_; clear ho hb_ hg_ hl_ hc_ hb))
          | ((with_reducible refine gate_callee (f := 33) rfl ?_); (refine goesL_ (some 31) rfl rfl Try.func33 (by kernel_rfl) rfl #[.pointer (some ⟨b1, 0, none⟩), .slice A30 table.length c30] rfl (by (try simp only [List.map_toArray, List.map_cons, List.map_nil]); first | done | rfl) ?_; refine (word_calls b1 lowL awP awW 2 2 La1 Lc1 bt1 base1 Wa1 Wc1 A30 c30 table _ HH1.out HC30.out HL30.out aw_fit table_word (by decide) (by decide) aw_told).mono ?_; rintro e wa ⟨v, rfl, hr, hb⟩; refine ⟨_, rfl, ?_⟩; rw [show table.length = 5 from rfl, aw_2] at hr; obtain ⟨A6, c6, hv_, hl_, hc_⟩ := Kd.R_reads hr; subst hv_; have HC6 := Aside0.mk hc_; replace HC5 := Aside0.mk (Kd.C_below HC5.out hb); replace HH2 := Aside0.mk (HH2.out.below hb); replace HB := Aside0.mk (below_step HB.out hb); clear hb hr hl_ hc_))
          | ((with_reducible refine gate_dst (N := 33) rfl ?_); (refine Kd.R_lit (Kd.int .i32) (w0 := w) w.heap.size 21 ?hg (N := 33) ?hd (xs := table) (inner := [.int .i32 116, .int .i32 97, .int .i32 98, .int .i32 108, .int .i32 101]) (ok := fun _ => True) (okp := fun _ => True) ?hr ?hp (fun _ hk => hk) trivial HB.out (below_size HB.out) (by decide) ?_; (case hd => rfl); (case hg => rfl); (case hr => first | (go_simp; done) | (go_simp; rfl)); (case hp => exact (Reps.one (show Kd.M (Kd.int .i32) _ _ _ 116 [.int .i32 116] from rfl) (Reps.one (show Kd.M (Kd.int .i32) _ _ _ 97 [.int .i32 97] from rfl) (Reps.one (show Kd.M (Kd.int .i32) _ _ _ 98 [.int .i32 98] from rfl) (Reps.one (show Kd.M (Kd.int .i32) _ _ _ 108 [.int .i32 108] from rfl) (Reps.one (show Kd.M (Kd.int .i32) _ _ _ 101 [.int .i32 101] from rfl) (Reps.none _ _))))))); intro v33 w33 ho hb_ hg_ hn_; clear hn_; obtain ⟨A33, c33, hv_, hl_, hc_⟩ := Kd.R_reads ho; subst hv_; have HL33 := Aside0.mk hl_; have HC33 := Aside0.mk hc_; have hb := below_none hg_; replace HC5 := Aside0.mk (Kd.C_below HC5.out hb); replace HC6 := Aside0.mk (Kd.C_below HC6.out hb); replace HH2 := Aside0.mk (HH2.out.below hb); replace HB := Aside0.mk hb_; clear ho hb_ hg_ hl_ hc_ hb))
          | ((with_reducible refine gate_callee (f := 33) rfl ?_); (refine goesL_ (some 34) rfl rfl Try.func33 (by kernel_rfl) rfl #[.pointer (some ⟨b2, 0, none⟩), .slice A33 table.length c33] rfl (by (try simp only [List.map_toArray, List.map_cons, List.map_nil]); first | done | rfl) ?_; refine (word_calls b2 lowL awP awW 2 4 La2 Lc2 bt2 base2 Wa2 Wc2 A33 c33 table _ HH2.out HC33.out HL33.out aw_fit table_word (by decide) (by decide) aw_told).mono ?_; rintro e wa ⟨v, rfl, hr, hb⟩; refine ⟨_, rfl, ?_⟩; rw [show table.length = 5 from rfl, aw_3] at hr; obtain ⟨A7, c7, hv_, hl_, hc_⟩ := Kd.R_reads hr; subst hv_; have HC7 := Aside0.mk hc_; replace HC5 := Aside0.mk (Kd.C_below HC5.out hb); replace HC6 := Aside0.mk (Kd.C_below HC6.out hb); replace HB := Aside0.mk (below_step HB.out hb); clear hb hr hl_ hc_)))
        go_meet
        case rel => exact ⟨A5, c5, A6, c6, A7, c7, rfl, rfl, rfl, HC5, HC6, HC7, HB⟩
      case rest =>
        obtain ⟨A5, c5, A6, c6, A7, c7, rfl, rfl, rfl, HC5, HC6, HC7, HB'⟩ := hcut
        obtain ⟨ad5, e5, x52⟩ := Kd.at_bool HC5.out 2 (by decide) (by decide)
        subst e5
        obtain ⟨ad5', e5, x53⟩ := Kd.at_bool HC5.out 3 (by decide) (by decide)
        injection e5 with e5
        subst e5
        obtain ⟨ad6, e6, x62⟩ := Kd.at_bool HC6.out 2 (by decide) (by decide)
        subst e6
        obtain ⟨ad7, e7, x72⟩ := Kd.at_bool HC7.out 2 (by decide) (by decide)
        subst e7
        replace x52 : wc.cell? ⟨ad5.block, ad5.off + 2, none⟩ = some (.bool true) := x52
        replace x53 : wc.cell? ⟨ad5.block, ad5.off + 3, none⟩ = some (.bool false) := x53
        replace x62 : wc.cell? ⟨ad6.block, ad6.off + 2, none⟩ = some (.bool true) := x62
        replace x72 : wc.cell? ⟨ad7.block, ad7.off + 2, none⟩ = some (.bool false) := x72
        go_wp2_with fail
        go_ret
        exact ⟨rfl, HB'.out⟩
end Go.Proofs.Ytoefjhdcipgacaa.Hy
end
section
namespace Go.Proofs.Ytoefjhdcipgacaa.Hy
open Go.RowKit Go.Proofs.YtoefjhdcipgacaaW.PrintWords Go.Proofs.YtoefjhdcipgacaaW.PrintLast Go.Proofs.YtoefjhdcipgacaaW.PrintMore
open Go.Proofs.Ytoefjhdcipgacaa.PA Go.Proofs.Ytoefjhdcipgacaa.Dec
abbrev codeOf (s : ByteArray) : Int := (parseOf s).2.2.1
abbrev atOf (s : ByteArray) : Int := (parseOf s).2.2.2
abbrev patsOf (s : ByteArray) : List S39 := (parseOf s).1
abbrev toldOf (s : ByteArray) : List S39 := (parseOf s).2.1
theorem pparse_zero (f : Nat) : ∀ (l : List S66) (xs ws : List S39), (pparse f l xs ws).2.2.1 = 0 → (pparse f l xs ws).2.2.2 = 0 := by
  induction f with
  | zero => intro l xs ws _; rfl
  | succ f ih =>
    intro l xs ws h
    cases l with
    | nil => rfl
    | cons s t =>
      rw [pparse] at h ⊢
      split at h
      · rename_i hb; rw [if_pos hb]; exact ih _ _ _ h
      · rename_i hb
        rw [if_neg hb]
        split at h
        · cases h
        · rename_i hm
          rw [if_neg hm]
          dsimp only at h ⊢
          split at h
          · rename_i hok
            rw [if_pos hok]
            split at h
            · rename_i hh
              rw [if_pos hh]
              split at h
              · cases h
              · rename_i hk; rw [if_neg hk]; exact ih _ _ _ h
            · rename_i hh; rw [if_neg hh]; exact ih _ _ _ h
          · cases h
theorem at_zero {s : ByteArray} (h : codeOf s = 0) : atOf s = 0 := by
  unfold codeOf atOf parseOf at *
  split at h
  · cases h
  · rename_i hs; rw [if_neg hs]; exact pparse_zero _ _ _ _ h
theorem parse_eq' (s : ByteArray) : pats_Parse.f 40000 s = some (patsOf s, toldOf s, codeOf s, atOf s) := parse_eq s 40000 (Nat.le_refl _)
theorem newC (s : ByteArray) (A : Option Addr) (c : Nat) (ls : List S63) (left right : Int) (w : World) (hl : Kd.C k63 w A ls.length ls) (hlc : ls.length ≤ c) (h8 : ls.length ≤ 1000000) (hck : hyph_Check.f 40000 ls = some true) (h1 : 1 ≤ left ∧ left ≤ 24) (h2 : 1 ≤ right ∧ right ≤ 24) (hc : codeOf s = 0) :
    Calls Try.prog 26 #[.string s, .slice A ls.length c, .int .i64 left, .int .i64 right] w fun e w' => ∃ b La Lc bt base Wa Wc, e = .returned (.tuple #[.pointer (some ⟨b, 0, none⟩), .agg #[.int .i64 0, .int .i64 0]]) ∧ HyphAt w' b ls (Tr.make ((patsOf s).map Tr.pq)) (toldOf s) left right La Lc bt base Wa Wc ∧ Below w.heap.size w w' :=
  new_ok 40000 s A c ls left right (patsOf s) (toldOf s) w hl hlc h8 hck h1.1 h2.1 h1.2 h2.2 (by rw [parse_eq' s, hc, at_zero hc]) (parseOf_fit s)
theorem tmod_in (a b : Int) (h0 : 0 ≤ a) (hb : 0 < b) : 0 ≤ a.tmod b ∧ a.tmod b < b := ⟨Int.tmod_nonneg b h0, Int.tmod_lt_of_pos a hb⟩
end Go.Proofs.Ytoefjhdcipgacaa.Hy
end
section
namespace Go.Proofs.Ytoefjhdcipgacaa.Hy
open Go.RowKit Go.Proofs.YtoefjhdcipgacaaW.PrintWords Go.Proofs.YtoefjhdcipgacaaW.PrintLast Go.Proofs.YtoefjhdcipgacaaW.PrintMore
open Go.Proofs.Ytoefjhdcipgacaa.PA Go.Proofs.Ytoefjhdcipgacaa.Dec
def oneLet (last : Int) (x : S63) : S63 := ⟨last + 1 + x.f0 % 4294967296 % 120, last + 1 + x.f0 % 4294967296 % 120 + x.f1 % 4294967296 % 40, Int.tmod (IntKind.u64.wrap x.f2) 200⟩
def lettersTo (last : Int) : List S63 → List S63
  | [] => []
  | x :: t => oneLet last x :: lettersTo (oneLet last x).f1 t
def lettersM (ls : List S63) : List S63 := lettersTo (-1) (ls.take 50)
theorem lettersTo_length (l : List S63) : ∀ last, (lettersTo last l).length = l.length := by
  induction l with
  | nil => intro _; rfl
  | cons x t ih => intro last; rw [lettersTo, List.length_cons, List.length_cons, ih]
theorem u64_in (n : Int) : 0 ≤ IntKind.u64.wrap n ∧ IntKind.u64.wrap n < 18446744073709551616 := by
  have : IntKind.u64.wrap n = n % 18446744073709551616 := by simp [IntKind.wrap, IntKind.bits, IntKind.signed]
  rw [this]; omega
theorem oneLet_in (last : Int) (x : S63) : last < (oneLet last x).f0 ∧ (oneLet last x).f0 ≤ (oneLet last x).f1 ∧ (oneLet last x).f1 ≤ last + 160 ∧ 0 ≤ (oneLet last x).f2 ∧ (oneLet last x).f2 < 200 := by
  have h := tmod_in (IntKind.u64.wrap x.f2) 200 (u64_in x.f2).1 (by decide)
  have ha : 0 ≤ x.f0 % 4294967296 % 120 ∧ x.f0 % 4294967296 % 120 < 120 := ⟨Int.emod_nonneg _ (by decide), Int.emod_lt_of_pos _ (by decide)⟩
  have hb : 0 ≤ x.f1 % 4294967296 % 40 ∧ x.f1 % 4294967296 % 40 < 40 := ⟨Int.emod_nonneg _ (by decide), Int.emod_lt_of_pos _ (by decide)⟩
  unfold oneLet
  dsimp only
  generalize x.f0 % 4294967296 % 120 = a at ha ⊢
  generalize x.f1 % 4294967296 % 40 = b at hb ⊢
  generalize Int.tmod (IntKind.u64.wrap x.f2) 200 = c at h ⊢
  omega
theorem step_eq (last : Int) (x : S63) (h1 : -1 ≤ last) (h2 : last ≤ 100000) :
    (⟨wrap32 (wrap64 ((wrap64 (last + 1)) + ((x.f0 % 4294967296) % 120))), wrap32 (wrap64 ((wrap64 ((wrap64 (last + 1)) + ((x.f0 % 4294967296) % 120))) + ((x.f1 % 4294967296) % 40))), wrap64 (Int.tmod (IntKind.u64.wrap x.f2) 200)⟩ : S63) = oneLet last x ∧
    wrap64 ((wrap64 ((wrap64 (last + 1)) + ((x.f0 % 4294967296) % 120))) + ((x.f1 % 4294967296) % 40)) = (oneLet last x).f1 := by
  have ha : 0 ≤ x.f0 % 4294967296 % 120 ∧ x.f0 % 4294967296 % 120 < 120 := ⟨Int.emod_nonneg _ (by decide), Int.emod_lt_of_pos _ (by decide)⟩
  have hb : 0 ≤ x.f1 % 4294967296 % 40 ∧ x.f1 % 4294967296 % 40 < 40 := ⟨Int.emod_nonneg _ (by decide), Int.emod_lt_of_pos _ (by decide)⟩
  have hc := tmod_in (IntKind.u64.wrap x.f2) 200 (u64_in x.f2).1 (by decide)
  unfold oneLet
  generalize x.f0 % 4294967296 % 120 = a at ha ⊢
  generalize x.f1 % 4294967296 % 40 = b at hb ⊢
  generalize Int.tmod (IntKind.u64.wrap x.f2) 200 = c at hc ⊢
  have e1 : wrap64 (last + 1) = last + 1 := w64 _ ⟨by omega, by omega⟩
  have e2 : wrap64 (last + 1 + a) = last + 1 + a := w64 _ ⟨by omega, by omega⟩
  have e3 : wrap64 (last + 1 + a + b) = last + 1 + a + b := w64 _ ⟨by omega, by omega⟩
  have e4 : wrap32 (last + 1 + a) = last + 1 + a := w32 _ ⟨by omega, by omega⟩
  have e5 : wrap32 (last + 1 + a + b) = last + 1 + a + b := w32 _ ⟨by omega, by omega⟩
  have e6 : wrap64 c = c := w64 _ ⟨by omega, by omega⟩
  simp only [e1, e2, e3, e4, e5, e6, and_self]
theorem letters_run (ls : List S63) (m : Nat) : ∀ (i k : Nat) (xs : List S63) (last : Int), 50 - i ≤ m → i ≤ ls.length → i ≤ 50 → xs.length = i → m + 2 ≤ k → -1 ≤ last → last ≤ 160 * i → stanzalaw09_letters.l0 k ls xs last (i : Int) = some (xs ++ lettersTo last ((ls.take 50).drop i)) := by
  induction m with
  | zero =>
    intro i k xs last hm hi h8 hx hk h1 h2
    obtain ⟨k, rfl⟩ : ∃ k', k = k' + 1 := ⟨k - 1, by omega⟩
    rw [stanzalaw09_letters.l0.eq_2, List.drop_eq_nil_of_le (by rw [List.length_take]; omega), lettersTo, List.append_nil]
    by_cases h : (i : Int) < (ls.length : Int)
    · rw [if_pos h, if_neg (by omega)]
    · rw [if_neg h]
  | succ m ih =>
    intro i k xs last hm hi h8 hx hk h1 h2
    obtain ⟨k, rfl⟩ : ∃ k', k = k' + 1 := ⟨k - 1, by omega⟩
    rw [stanzalaw09_letters.l0.eq_2]
    by_cases h : (i : Int) < (ls.length : Int)
    · rw [if_pos h]
      by_cases h80 : (i : Int) < 50
      · rw [if_pos h80, if_pos (by omega), if_pos (by omega)]
        have hil : i < ls.length := by omega
        have hit : i < (ls.take 50).length := by rw [List.length_take]; omega
        have hd : (ls.take 50).drop i = rd_T63 ls (i : Int) :: (ls.take 50).drop (i + 1) := by
          rw [List.drop_eq_getElem_cons hit, List.getElem_take, rd63 hil]
        obtain ⟨x, hx0⟩ : ∃ x, x = rd_T63 ls (i : Int) := ⟨_, rfl⟩
        rw [hd, ← hx0, lettersTo]
        have ho := oneLet_in last x
        obtain ⟨s1, s2⟩ := step_eq last x (by omega) (by omega)
        have e7 : wrap64 ((i : Int) + 1) = ((i + 1 : Nat) : Int) := by rw [w64 _ ⟨by omega, by omega⟩]; omega
        rw [s1]
        simp only [s2, e7]
        clear s1 s2 e7
        generalize oneLet last x = y0 at ho ⊢
        have := ih (i + 1) k (xs ++ [y0]) y0.f1 (by omega) (by omega) (by omega) (by rw [List.length_append, hx]; rfl) (by omega) (by omega) (by omega)
        rw [List.append_assoc, List.singleton_append] at this
        exact this
      · rw [if_neg h80, List.drop_eq_nil_of_le (by rw [List.length_take]; omega), lettersTo, List.append_nil]
    · rw [if_neg h, List.drop_eq_nil_of_le (by rw [List.length_take]; omega), lettersTo, List.append_nil]
theorem letters_eq (ls : List S63) : stanzalaw09_letters.f 100 ls = some (lettersM ls) := by
  have := letters_run ls 50 0 100 [] (-1) (by omega) (Nat.zero_le _) (by omega) rfl (by omega) (by omega) (by omega)
  rw [List.nil_append, List.drop_zero] at this
  exact this
theorem lettersTo_ok (l : List S63) : ∀ last : Int, -1 ≤ last → last + 160 * l.length ≤ 100000 →
    (∀ i : Nat, i < l.length → last < (rd_T63 (lettersTo last l) (i : Int)).f0 ∧ (rd_T63 (lettersTo last l) (i : Int)).f0 ≤ (rd_T63 (lettersTo last l) (i : Int)).f1 ∧ (rd_T63 (lettersTo last l) (i : Int)).f1 ≤ last + 160 * l.length ∧ 0 ≤ (rd_T63 (lettersTo last l) (i : Int)).f2 ∧ (rd_T63 (lettersTo last l) (i : Int)).f2 < 200) ∧
    ∀ i j : Nat, i < j → j < l.length → (rd_T63 (lettersTo last l) (i : Int)).f1 < (rd_T63 (lettersTo last l) (j : Int)).f0 := by
  have r0 : ∀ (x : S63) t, rd_T63 (x :: t) ((0 : Nat) : Int) = x := fun _ _ => rfl
  have rs : ∀ (x : S63) t (n : Nat), rd_T63 (x :: t) ((n + 1 : Nat) : Int) = rd_T63 t (n : Int) := fun x t n => by
    show (x :: t).getD ((n + 1 : Nat) : Int).toNat z63 = t.getD ((n : Nat) : Int).toNat z63
    rw [Int.toNat_natCast, Int.toNat_natCast]; rfl
  induction l with
  | nil => intro last _ _; exact ⟨fun i h => absurd h (Nat.not_lt_zero i), fun i j _ h => absurd h (Nat.not_lt_zero j)⟩
  | cons x t ih =>
    intro last h1 h2
    rw [List.length_cons] at h2
    have ho := oneLet_in last x
    rw [lettersTo]
    generalize oneLet last x = y0 at ho ⊢
    obtain ⟨a1, a2⟩ := ih y0.f1 (by omega) (by omega)
    refine ⟨fun i hi => ?_, fun i j hij hj => ?_⟩
    · rw [List.length_cons] at hi ⊢
      cases i with
      | zero => rw [r0]; omega
      | succ i => rw [rs]; have := a1 i (by omega); omega
    · rw [List.length_cons] at hj
      cases j with
      | zero => exact absurd hij (Nat.not_lt_zero i)
      | succ j =>
        rw [rs]
        cases i with
        | zero => rw [r0]; exact (a1 j (by omega)).1
        | succ i => rw [rs]; exact a2 i j (by omega) (by omega)
theorem lettersM_len (ls : List S63) : (lettersM ls).length ≤ 50 := by rw [lettersM, lettersTo_length, List.length_take]; omega
theorem lettersM_ok (ls : List S63) : LsOk (lettersM ls) := by
  have hl : (ls.take 50).length ≤ 50 := by rw [List.length_take]; omega
  obtain ⟨a1, a2⟩ := lettersTo_ok (ls.take 50) (-1) (by omega) (by omega)
  refine ⟨by have := lettersM_len ls; omega, fun i hi => ?_, fun i j hij hj => a2 i j hij (by rw [lettersM, lettersTo_length] at hj; exact hj)⟩
  have := a1 i (by rw [lettersM, lettersTo_length] at hi; exact hi)
  unfold lettersM
  generalize rd_T63 (lettersTo (-1) (ls.take 50)) (i : Int) = y0 at this ⊢
  generalize (ls.take 50).length = n0 at hl this
  omega
theorem check_run {ls : List S63} (h : LsOk ls) (m : Nat) : ∀ (i k : Nat) (last : Int), ls.length - i ≤ m → i ≤ ls.length → m + 2 ≤ k → (∀ j : Nat, i ≤ j → j < ls.length → last < (rd_T63 ls (j : Int)).f0) → hyph_Check.l0 k last ls (ls.length : Int) (i : Int) = some true := by
  have hl := h.1
  induction m with
  | zero =>
    intro i k last hm hi hk _
    obtain ⟨k, rfl⟩ : ∃ k', k = k' + 1 := ⟨k - 1, by omega⟩
    rw [hyph_Check.l0.eq_2, if_neg (by omega)]
  | succ m ih =>
    intro i k last hm hi hk hlast
    obtain ⟨k, rfl⟩ : ∃ k', k = k' + 1 := ⟨k - 1, by omega⟩
    rw [hyph_Check.l0.eq_2]
    by_cases hc : (i : Int) < (ls.length : Int)
    · have g := h.2.1 i (by omega)
      have g2 := hlast i (Nat.le_refl _) (by omega)
      have g3 : ∀ j : Nat, i + 1 ≤ j → j < ls.length → (rd_T63 ls (i : Int)).f1 < (rd_T63 ls (j : Int)).f0 := fun j hj1 hj2 => h.2.2 i j (by omega) hj2
      clear hlast
      generalize rd_T63 ls (i : Int) = y0 at g g2 g3 ⊢
      rw [if_pos hc, if_pos (by omega), if_pos hc, if_neg (by omega), if_neg (by omega), if_neg (by omega), if_neg (by omega)]
      have e1 : wrap32 (y0.f1 - y0.f0) = y0.f1 - y0.f0 := w32 _ ⟨by omega, by omega⟩
      have e2 : wrap64 (y0.f1 - y0.f0) = y0.f1 - y0.f0 := w64 _ ⟨by omega, by omega⟩
      have e3 : wrap64 (1114111 - (y0.f1 - y0.f0)) = 1114111 - (y0.f1 - y0.f0) := w64 _ ⟨by omega, by omega⟩
      have e4 : wrap64 ((i : Int) + 1) = ((i + 1 : Nat) : Int) := by rw [w64 _ ⟨by omega, by omega⟩]; omega
      simp only [e1, e2, e3, e4]
      clear e1 e2 e3 e4
      rw [if_neg (by omega)]
      exact ih (i + 1) k _ (by omega) (by omega) (by omega) g3
    · rw [if_neg hc]
theorem check_ok {ls : List S63} (h : LsOk ls) (k : Nat) (hk : 300 ≤ k) : hyph_Check.f k ls = some true := by
  have hl := h.1
  unfold hyph_Check.f
  rw [if_neg (by omega)]
  exact check_run h ls.length 0 k (-1) (by omega) (Nat.zero_le _) (by omega) (fun j _ hj => by have := (h.2.1 j hj).1; omega)
theorem refLet_run {ls : List S63} (h : LsOk ls) (r : Int) (hr : Tr.In32 r) (m : Nat) : ∀ (i k : Nat), ls.length - i ≤ m → i ≤ ls.length → m + 2 ≤ k → stanzaref07_Letter.l0 k ls r (i : Int) = some (letOf (ls.drop i) r) := by
  have hl := h.1
  induction m with
  | zero =>
    intro i k hm hi hk
    obtain ⟨k, rfl⟩ : ∃ k', k = k' + 1 := ⟨k - 1, by omega⟩
    rw [stanzaref07_Letter.l0.eq_2, if_neg (by omega), List.drop_eq_nil_of_le (by omega)]
    rfl
  | succ m ih =>
    intro i k hm hi hk
    obtain ⟨k, rfl⟩ : ∃ k', k = k' + 1 := ⟨k - 1, by omega⟩
    rw [stanzaref07_Letter.l0.eq_2]
    by_cases hc : (i : Int) < (ls.length : Int)
    · have g := h.2.1 i (by omega)
      have hil : i < ls.length := by omega
      have E4 := Aside0.mk (show wrap64 ((i : Int) + 1) = ((i + 1 : Nat) : Int) by rw [w64 _ ⟨by omega, by omega⟩]; omega)
      have hI := ih (i + 1) k (by omega) (by omega) (by omega)
      rw [if_pos hc, if_pos (by omega), List.drop_eq_getElem_cons hil, ← rd63 hil]
      generalize rd_T63 ls (i : Int) = y0 at g ⊢
      have hno : ¬ (y0.f0 ≤ r ∧ r ≤ y0.f1) → letOf (y0 :: ls.drop (i + 1)) r = letOf (ls.drop (i + 1)) r := fun hn => by
        unfold letOf
        rw [List.find?_cons_of_neg (by simpa using hn)]
      by_cases h1 : y0.f0 ≤ r
      · rw [if_pos h1]
        by_cases h2 : r ≤ y0.f1
        · rw [if_pos h2]
          have E1 := Aside0.mk (show wrap64 r = r from w64 _ ⟨by have := hr.1; omega, by have := hr.2; omega⟩)
          have E2 := Aside0.mk (show wrap64 (y0.f2 + r) = y0.f2 + r from w64 _ ⟨by omega, by omega⟩)
          have E3 := Aside0.mk (show wrap64 (y0.f0) = y0.f0 from w64 _ ⟨by omega, by omega⟩)
          have E5 := Aside0.mk (show wrap64 (y0.f2 + r - y0.f0) = y0.f2 + r - y0.f0 from w64 _ ⟨by omega, by omega⟩)
          have E6 := Aside0.mk (show wrap32 (y0.f2 + r - y0.f0) = y0.f2 + r - y0.f0 from w32 _ ⟨by omega, by omega⟩)
          simp only [E1.out, E2.out, E3.out, E5.out, E6.out]
          unfold letOf
          rw [List.find?_cons_of_pos (by simpa using ⟨h1, h2⟩)]
        · rw [if_neg h2, E4.out, hI, hno (fun h => h2 h.2)]
      · rw [if_neg h1, E4.out, hI, hno (fun h => h1 h.1)]
    · rw [if_neg hc, List.drop_eq_nil_of_le (by omega)]
      rfl
theorem refLet_eq {ls : List S63} (h : LsOk ls) (r : Int) (hr : Tr.In32 r) (k : Nat) (hk : 300 ≤ k) : stanzaref07_Letter.f k ls r = some (letOf ls r) := by
  have hl := h.1
  exact refLet_run h r hr ls.length 0 k (by omega) (Nat.zero_le _) (by omega)
def emptyS : ByteArray := { data := #[] }
theorem empty_parse : parseOf emptyS = ([], [], 0, 0) := by kernel_rfl
end Go.Proofs.Ytoefjhdcipgacaa.Hy
end
section
namespace Go.Proofs.Ytoefjhdcipgacaa.Hy
open Go.RowKit Go.Proofs.YtoefjhdcipgacaaW.PrintWords Go.Proofs.YtoefjhdcipgacaaW.PrintLast Go.Proofs.YtoefjhdcipgacaaW.PrintMore
open Go.Proofs.Ytoefjhdcipgacaa.PA
attribute [local go_sem] max2_int min2_int max_two min_two
set_option linter.unusedSimpArgs false
set_option linter.unusedVariables false
theorem empty_code : codeOf emptyS = 0 := by rw [codeOf, empty_parse]
set_option maxHeartbeats 8000000 in
set_option maxRecDepth 100000 in
theorem letters_walk (ls : List S63) (A : Option Addr) (c : Nat) (r : Int) (w : World) (hl : Kd.C k63 w A ls.length ls) (hlc : ls.length ≤ c) (_hq : ∀ x ∈ ls, Tr.In32 x.f0 ∧ Tr.In32 x.f1 ∧ -9223372036854775808 ≤ x.f2 ∧ x.f2 ≤ 9223372036854775807) (hr : Tr.In32 r) :
    Calls Try.prog 15 #[.slice A ls.length c, .int .i32 r] w fun e w' => e = .returned (.bool true) ∧ Below w.heap.size w w' := by
  have HC_ls := Aside0.mk hl
  have HL_ls := Aside0.mk hlc
  have HR := Aside0.mk hr
  clear hl hlc hr
  go_enter Try.func15, Try.ntmps15
  go_upto_region 4 with (first
    | ((with_reducible refine gate_callee (f := 24) rfl ?_); (refine goesL_ (some 19) rfl rfl Try.func24 (by kernel_rfl) rfl #[] rfl (by (try simp only [List.map_toArray, List.map_cons, List.map_nil]); first | done | rfl) ?_; refine (awake09_calls _).mono ?_; rintro e wa ⟨rfl, hb⟩; refine ⟨_, rfl, ?_⟩; replace HC_ls := Aside0.mk (Kd.C_below HC_ls.out hb); have HB := Aside0.mk hb; clear hb))
    | ((with_reducible refine gate_callee (f := 25) rfl ?_); (refine goesL_ (some 22) rfl rfl Try.func25 (by kernel_rfl) rfl #[.slice A ls.length c] rfl (by (try simp only [List.map_toArray, List.map_cons, List.map_nil]); first | done | rfl) ?_; refine (stanzalaw09_letters.calls 100 A c ls (lettersM ls) _ HC_ls.out HL_ls.out (letters_eq ls)).mono ?_; rintro e w2 ⟨v, rfl, hr, hb⟩; refine ⟨_, rfl, ?_⟩; generalize hnm : lettersM ls = M at hr; have HE_M := Aside0.mk hnm; obtain ⟨AM, cM, hv_, hl_, hc_⟩ := Kd.R_reads hr; subst hv_; have HL_M := Aside0.mk hl_; have HC_M := Aside0.mk hc_; replace HB := Aside0.mk (below_step HB.out hb); clear hb hr hl_ hc_ hnm)))
  have HOK : Aside0 (LsOk M) := ⟨by rw [← HE_M.out]; exact lettersM_ok ls⟩
  have HML : Aside0 (M.length ≤ 50) := ⟨by rw [← HE_M.out]; exact lettersM_len ls⟩
  have HCK : Aside0 (hyph_Check.f 40000 M = some true) := ⟨check_ok HOK.out 40000 (by decide)⟩
  have HE0 := Aside0.mk empty_code
  go_cut [5, 6] (fun v5 v6 wc => ∃ b La Lc bt base Wa Wc g6, v5 = .pointer (some ⟨b, 0, none⟩) ∧ v6 = .pointer (some ⟨g6, 0, none⟩) ∧ Aside0 (HyphAt wc b M (Tr.make ((patsOf emptyS).map Tr.pq)) (toldOf emptyS) 1 1 La Lc bt base Wa Wc) ∧ Aside0 (wc.heap[g6]? = some (.cells #[.int .i64 0, .int .i64 0] 46 (0, 0))) ∧ Aside0 (Kd.C k63 wc AM M.length M) ∧ Aside0 (Below w.heap.size w wc))
  case first =>
    go_wp2_with (first
      | ((with_reducible refine gate_callee (f := 26) rfl ?_); (refine goesL_ (some 25) rfl rfl Try.func26 (by kernel_rfl) rfl #[.string emptyS, .slice AM M.length cM, .int .i64 1, .int .i64 1] rfl (by (try simp only [List.map_toArray, List.map_cons, List.map_nil]); first | done | rfl) ?_; refine (newC emptyS AM cM M 1 1 _ HC_M.out HL_M.out (by have := HML.out; omega) HCK.out (by decide) (by decide) HE0.out).mono ?_; rintro e wb ⟨b, La, Lc, bt, base, Wa, Wc, rfl, hH, hb⟩; refine ⟨_, rfl, ?_⟩; have HH := Aside0.mk hH; replace HB := Aside0.mk (below_step HB.out hb); replace HC_M := Aside0.mk (Kd.C_below HC_M.out hb); clear hb hH))
      | ((with_reducible refine gate_dst (N := 6) rfl ?_); refine box_event ?hg (N := 6) ?hd (cs := #[.int .i64 0, .int .i64 0]) (t := 46) ?hr ?_; (case hd => rfl); (case hg => rfl); (case hr => first | (go_simp; done) | (go_simp; rfl)); intro gx hg wc1 hbox hb; have GE := Aside0.mk (by rw [hg]; exact below_size HB.out : w.heap.size ≤ gx); have GH := Aside0.mk (Nat.le_of_eq hg.symm : wb.heap.size ≤ gx); have BKx := Aside0.mk hbox; have HBb := Aside0.mk hb; replace HB := Aside0.mk (below_step HB.out hb); have hcz0 : wc1.cell? ⟨gx, 0, none⟩ = some (.int .i64 0) := (blk_cell hbox 0).trans rfl; have hcz1 : wc1.cell? ⟨gx, 1, none⟩ = some (.int .i64 0) := (blk_cell hbox 1).trans rfl; have hfz0 := blk_frozen hbox 0; have hfz1 := blk_frozen hbox 1; clear hb hbox hg))
    go_meet
    case rel =>
      refine ⟨b, La, Lc, bt, base, Wa, Wc, gx, rfl, rfl, ⟨HH.out.below (below_set (below_set HBb.out GH.out) GH.out)⟩, ⟨?_⟩, ⟨Kd.C_below HC_M.out (below_set (below_set HBb.out GH.out) GH.out)⟩, ⟨below_set (below_set HB.out GE.out) GE.out⟩⟩
      exact blk_put (cs := #[.int .i64 0, .int .i64 0]) (blk_put (cs := #[.int .i64 0, .int .i64 0]) BKx.out 0 _ rfl) 1 _ rfl
  case rest =>
    obtain ⟨b1, La1, Lc1, bt1, base1, Wa1, Wc1, g6, rfl, rfl, HH, BK6, HC_M', HB'⟩ := hcut
    clear HB HC_M
    have HBw := HB'
    have HC_M := HC_M'
    clear HB' HC_M'
    rename World => wH
    have q6 : wH.cell? ⟨g6, 0, none⟩ = some (.int .i64 0) := (blk_cell BK6.out 0).trans rfl
    have HB := Aside0.mk (Below.refl wH.heap.size wH)
    go_upto_region 7 with fail
    clear q6 BK6
    go_cut [7] (fun v7 wc => Aside0 (Kd.R (Kd.int .i32) 21 wc wH.heap.size (fun _ => True) v7 [r]) ∧ Aside0 (Below wH.heap.size wH wc))
    case first =>
      go_wp2_with ((with_reducible refine gate_dst (N := 32) rfl ?_); (refine Kd.R_lit (Kd.int .i32) (w0 := wH) wH.heap.size 21 ?hg (N := 32) ?hd (xs := [r]) (inner := [.int .i32 r]) (ok := fun _ => True) (okp := fun _ => True) ?hr ?hp (fun _ hk => hk) trivial HB.out (Nat.le_refl _) (by simp) ?_; (case hd => rfl); (case hg => rfl); (case hr => first | (go_simp; done) | (go_simp; rfl)); (case hp => exact (Reps.one (show Kd.M (Kd.int .i32) _ _ _ r [.int .i32 r] from rfl) (Reps.none _ _))); intro v32 w32_ ho hb_ hg_ hn_; clear hn_ hg_; have HO := Aside0.mk ho; have HB2 := Aside0.mk hb_; clear ho hb_))
      go_meet
      case rel => exact ⟨HO, HB2⟩
    case rest =>
      obtain ⟨HO, HB2⟩ := hcut
      clear HB
      rename_i v7
      have hm50 : M.length ≤ 50 := HML.out
      go_wp2_with fail
      go_loopg [7, 35] M.length (fun g v7 v35 w' => ∃ (j : Nat) (xs : List Int), v35 = .int .i64 j ∧ Aside0 (g + j = M.length) ∧ Aside0 (Kd.R (Kd.int .i32) 21 w' wH.heap.size (fun _ => True) v7 xs) ∧ Aside0 (xs.length = 1 + 4 * j ∧ ∀ n ∈ xs, Tr.In32 n) ∧ Aside0 (Below wH.heap.size wH w'))
      case atStart => exact ⟨0, [r], rfl, ⟨rfl⟩, HO, ⟨rfl, fun n hn => by rw [List.mem_singleton.1 hn]; exact HR.out⟩, HB2⟩
      case round =>
        obtain ⟨j, xs, rfl, HG, HX, HXL, HB⟩ := hrel
        by_cases hj : j < M.length
        · have p1 : (0 : Int) ≤ (j : Int) := by omega
          have q1 : (j : Int) < (M.length : Int) := by omega
          obtain ⟨ad, e1, hx0, hx1, hx2⟩ := at_T63 (Kd.C_below HC_M.out HB.out) (j : Int) p1 q1
          subst e1
          rw [Int.toNat_natCast] at hx0 hx1 hx2
          obtain ⟨p, hp⟩ : ∃ p, p = rd_T63 M (j : Int) := ⟨_, rfl⟩
          have hpk := HOK.out.2.1 j hj
          rw [← hp] at hx0 hx1 hx2 hpk
          obtain ⟨pk0, pk1, pk2, _, _⟩ := hpk
          clear hp
          have HJ := Aside0.mk hj
          obtain ⟨Ax, cx, rfl⟩ := Kd.R_slice HX.out
          go_upto_region 10 with fail
          go_cut [9] (fun v9 wc => ∃ g9, v9 = .pointer (some ⟨g9, 0, none⟩) ∧ Aside0 (wc.heap[g9]? = some (.cells #[.int .i32 p.f0, .int .i32 p.f1, .int .i64 p.f2] 63 (0, 0))) ∧ Aside0 (Kd.R (Kd.int .i32) 21 wc wH.heap.size (fun _ => True) (.slice Ax xs.length cx) xs) ∧ Aside0 (Below wH.heap.size wH wc))
          case first =>
            go_wp2_with ((with_reducible refine gate_dst (N := 9) rfl ?_); refine box_event ?hg (N := 9) ?hd (cs := #[.int .i32 0, .int .i32 0, .int .i64 0]) (t := 63) ?hr ?_; (case hd => rfl); (case hg => rfl); (case hr => first | (go_simp; done) | (go_simp; rfl)); intro g9 hg w1 hbox hb; have GE := Aside0.mk (by rw [hg]; exact below_size HB.out : wH.heap.size ≤ g9); have BK9 := Aside0.mk hbox; have HX2 := Aside0.mk (Kd.R_below HX.out hb); have HB3 := Aside0.mk (below_step HB.out hb); have hcz0 : w1.cell? ⟨g9, 0, none⟩ = some (.int .i32 0) := (blk_cell hbox 0).trans rfl; have hcz1 : w1.cell? ⟨g9, 1, none⟩ = some (.int .i32 0) := (blk_cell hbox 1).trans rfl; have hcz2 : w1.cell? ⟨g9, 2, none⟩ = some (.int .i64 0) := (blk_cell hbox 2).trans rfl; have hfz0 := blk_frozen hbox 0; have hfz1 := blk_frozen hbox 1; have hfz2 := blk_frozen hbox 2; clear hb hbox hg)
            go_meet
            case rel =>
              refine ⟨g9, rfl, ⟨?_⟩, ⟨?_⟩, ⟨below_set (below_set (below_set HB3.out GE.out) GE.out) GE.out⟩⟩
              · exact blk_put (cs := #[.int .i32 p.f0, .int .i32 p.f1, .int .i64 0]) (blk_put (cs := #[.int .i32 p.f0, .int .i32 0, .int .i64 0]) (blk_put (cs := #[.int .i32 0, .int .i32 0, .int .i64 0]) BK9.out 0 _ rfl) 1 _ rfl) 2 _ rfl
              · exact Kd.R_mono (Kd.R_far (p := ⟨g9, 2, none⟩) (Kd.R_far (p := ⟨g9, 1, none⟩) (Kd.R_far (p := ⟨g9, 0, none⟩) (Kd.R_types HX2.out BK9.out (by decide)) (fun _ hk => hk.2) _) (fun _ hk => hk.2) _) (fun _ hk => hk.2) _) (fun _ _ => trivial)
          case rest =>
            obtain ⟨g9, rfl, BK9, HX2, HB3⟩ := hcut
            clear HX HB hx0 hx1 hx2
            have hcz0 : wc.cell? ⟨g9, 0, none⟩ = some (.int .i32 p.f0) := (blk_cell BK9.out 0).trans rfl
            have hcz1 : wc.cell? ⟨g9, 1, none⟩ = some (.int .i32 p.f1) := (blk_cell BK9.out 1).trans rfl
            have HPK : Aside0 (∀ n ∈ [p.f0 - 1, p.f0, p.f1, p.f1 + 1], Tr.In32 n) := ⟨fun n hn => by
              simp only [List.mem_cons, List.not_mem_nil, or_false] at hn
              rcases hn with rfl | rfl | rfl | rfl <;> exact ⟨by omega, by omega⟩⟩
            go_wp2_with (first
              | ((with_reducible refine gate_dst (N := 50) rfl ?_); (refine Kd.R_lit (Kd.int .i32) (w0 := wH) wH.heap.size 21 ?hg (N := 50) ?hd (xs := [p.f0 - 1, p.f0, p.f1, p.f1 + 1]) (inner := [.int .i32 (p.f0 - 1), .int .i32 p.f0, .int .i32 p.f1, .int .i32 (p.f1 + 1)]) (ok := fun _ => True) (okp := fun _ => True) ?hr ?hp (fun _ hk => hk) trivial HB3.out (below_size HB3.out) (by simp) ?_; (case hd => rfl); (case hg => rfl); (case hr => first | (go_simp; done) | (go_simp; rfl)); (case hp => exact (Reps.one (show Kd.M (Kd.int .i32) _ _ _ (p.f0 - 1) [.int .i32 (p.f0 - 1)] from rfl) (Reps.one (show Kd.M (Kd.int .i32) _ _ _ p.f0 [.int .i32 p.f0] from rfl) (Reps.one (show Kd.M (Kd.int .i32) _ _ _ p.f1 [.int .i32 p.f1] from rfl) (Reps.one (show Kd.M (Kd.int .i32) _ _ _ (p.f1 + 1) [.int .i32 (p.f1 + 1)] from rfl) (Reps.none _ _)))))); intro v50 w50 ho hb_ hg_ hn_; clear hn_; obtain ⟨A50, c50, hv_, hl_, hc_⟩ := Kd.R_reads ho; subst hv_; have HC50 := Aside0.mk hc_; have HX3 := Aside0.mk (Kd.R_below HX2.out (below_none hg_)); have HB4 := Aside0.mk hb_; clear ho hb_ hg_ hl_ hc_))
              | ((with_reducible refine gate_builtin (b := .append) (xs := #[.tmp 39, .tmp 50]) rfl ?_); at_builtin; refine Kd.R_append_row (Value.int .i32) (0 : Int) (h1 := fun _ => rfl) (w0 := wH) wH.heap.size rfl (.tmp 39) (.tmp 50) 23 21 (.int .i32 0) 4 rfl Try.underlying23 info21 rfl (by decide) (.slice Ax xs.length cx) xs [p.f0 - 1, p.f0, p.f1, p.f1 + 1] A50 4 c50 (fun _ => True) rfl rfl (fun _ _ => trivial) HX3.out HC50.out HB4.out (below_size HB4.out) (by have := HXL.out.1; have := HJ.out; omega) ?_; intro v51 w51 ho hb_ hg_ hat_; clear hg_ hat_; have HX5 := Aside0.mk ho; have HB5 := Aside0.mk hb_; clear ho hb_))
            go_roundg (gk - 1)
            case measure => have := HG.out; have := HJ.out; omega
            case rel => exact ⟨j + 1, _, by go_num, ⟨by have := HG.out; have := HJ.out; omega⟩, HX5, ⟨by rw [List.length_append, HXL.out.1]; simp only [List.length_cons, List.length_nil]; omega, fun n hn => (List.mem_append.1 hn).elim (HXL.out.2 n) (HPK.out n)⟩, HB5⟩
        · obtain ⟨Ax, cx, rfl⟩ := Kd.R_slice HX.out
          have hxn : xs.length ≤ 201 := by have := HXL.out.1; have := HG.out; omega
          have HXC := Aside0.mk (Kd.R_reads' HX.out).2.2
          have HXI := Aside0.mk HXL.out.2
          clear HXL HG HX
          rename World => wK
          have HBK := Aside0.mk (Below.refl wK.heap.size wK)
          go_wp2_with fail
          go_loopg [55] xs.length (fun g v55 w' => ∃ m : Nat, v55 = .int .i64 m ∧ Aside0 (g + m = xs.length) ∧ Aside0 (Below wK.heap.size wK w'))
          case atStart => exact ⟨0, rfl, ⟨rfl⟩, HBK⟩
          case round =>
            clear HBK
            obtain ⟨m, rfl, HGm, HK⟩ := hrel
            have hHB := Aside0.mk (below_step HB.out HK.out)
            by_cases hm : m < xs.length
            · have p1 : (0 : Int) ≤ (m : Int) := by omega
              have q1 : (m : Int) < (xs.length : Int) := by omega
              obtain ⟨ad, e1, hx⟩ := Kd.at_int (Kd.C_below HXC.out HK.out) (m : Int) p1 q1
              subst e1
              rw [Int.toNat_natCast] at hx
              obtain ⟨n, hn⟩ : ∃ n, n = rd xs (m : Int) := ⟨_, rfl⟩
              rw [← hn] at hx
              have HN32 : Aside0 (Tr.In32 n) := ⟨by
                rw [hn]
                refine HXI.out _ ?_
                rw [rd, Int.toNat_natCast, List.getD_eq_getElem?_getD, List.getElem?_eq_getElem hm, Option.getD_some]
                exact List.getElem_mem hm⟩
              obtain ⟨la, hla⟩ : ∃ la, (letOf M n).1 = la := ⟨_, rfl⟩
              obtain ⟨lb, hlb⟩ : ∃ lb, (letOf M n).2 = lb := ⟨_, rfl⟩
              have HLA := Aside0.mk hla
              have HLB := Aside0.mk hlb
              have HM := Aside0.mk hm
              have HREF : Aside0 (stanzaref07_Letter.f 300 M n = some (la, lb)) := ⟨by rw [refLet_eq HOK.out n HN32.out 300 (by decide), ← HLA.out, ← HLB.out]⟩
              clear hn hla hlb
              go_wp2_with (first
                | ((with_reducible refine gate_callee (f := 39) rfl ?_); (refine goesL_ (some 62) rfl rfl Try.func39 (by kernel_rfl) rfl #[.pointer (some ⟨b1, 0, none⟩), .int .i32 n] rfl (by (try simp only [List.map_toArray, List.map_cons, List.map_nil]); first | done | rfl) ?_; refine (letter_calls b1 M _ _ 1 1 La1 Lc1 bt1 base1 Wa1 Wc1 n _ (HH.out.below hHB.out) HOK.out).mono ?_; rintro e wa ⟨rfl, hb⟩; refine ⟨_, rfl, ?_⟩; rw [HLA.out, HLB.out]; replace HK := Aside0.mk (below_step HK.out hb); replace hHB := Aside0.mk (below_step hHB.out hb); clear hb))
                | ((with_reducible refine gate_callee (f := 40) rfl ?_); (refine goesL_ (some 68) rfl rfl Try.func40 (by kernel_rfl) rfl #[.slice AM M.length cM, .int .i32 n] rfl (by (try simp only [List.map_toArray, List.map_cons, List.map_nil]); first | done | rfl) ?_; refine (stanzaref07_Letter.calls 300 AM cM M n la lb _ (Kd.C_below HC_M.out hHB.out) HL_M.out HREF.out).mono ?_; rintro e wb ⟨rfl, ⟨nd, hw⟩⟩; refine ⟨_, rfl, ?_⟩; have hb : Below wa.heap.size wa wb := (by rw [hw]; exact pw_below_drewN (Below.refl _ _) _); replace HK := Aside0.mk (below_step HK.out hb); replace hHB := Aside0.mk (below_step hHB.out hb); clear hb hw))
                | ((with_reducible refine gate_callee (f := 39) rfl ?_); (refine goesL_ (some 74) rfl rfl Try.func39 (by kernel_rfl) rfl #[.pointer none, .int .i32 n] rfl (by (try simp only [List.map_toArray, List.map_cons, List.map_nil]); first | done | rfl) ?_; refine (letter_nil n _).mono ?_; rintro e wc2 ⟨rfl, hb⟩; refine ⟨_, rfl, ?_⟩; replace HK := Aside0.mk (below_step HK.out hb); clear hb)))
              go_roundg (gk - 1)
              case measure => have := HGm.out; have := HM.out; omega
              case rel => exact ⟨m + 1, by go_num, ⟨by have := HGm.out; have := HM.out; omega⟩, HK⟩
            · go_wp2_with fail
              go_ret
              exact ⟨rfl, below_step HBw.out (below_step HB.out HK.out)⟩
end Go.Proofs.Ytoefjhdcipgacaa.Hy
end
