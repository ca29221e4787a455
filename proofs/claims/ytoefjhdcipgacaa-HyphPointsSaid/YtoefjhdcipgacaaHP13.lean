/-
 Part 13 of what the law HyphPoints rests on: contracts of the functions that it calls, and plain laws of what they compute.
-/
import Derived.WalkSpells
import Derived.RegionTactic
import Derived.BigRegion
import Derived.Test.YtoefjhdcipgacaaHP1
import Derived.Test.YtoefjhdcipgacaaHP6
import Derived.Test.YtoefjhdcipgacaaHP10
section
namespace Go.Proofs.Ytoefjhdcipgacaa.Tr
open Go.RowKit Go.Proofs.YtoefjhdcipgacaaW.PrintWords Go.Proofs.YtoefjhdcipgacaaW.PrintLast Go.Proofs.YtoefjhdcipgacaaW.PrintMore
open Go.Proofs.Ytoefjhdcipgacaa.PA
open Go.Maps (Keyed int_keyed)
attribute [local go_sem] max2_int min2_int max_two min_two
theorem mk84 (w : World) : (Instr.makeSlice 84 (.int .i64 1) (.int .i64 1)).run Try.prog w = .ok (.slice (some ⟨w.heap.size, 0, none⟩) 1 1) (w.alloc (.cells #[.map none, .slice none 0 0] 90)) := by kernel_rfl
def pq (p : S39) : List Int × List Int := (p.f0, p.f1)
def TrieAt (w : World) (base bt : Nat) (T : TM) : Prop := ∃ bn cap K xs ms vs, K ≤ T.n ∧ TrieM w base bt bn cap K xs ms vs T
theorem TrieM.start (w : World) : TrieM ((w.alloc (.cells #[.map none, .slice none 0 0] 90)).alloc (.cells #[.slice (some ⟨w.heap.size, 0, none⟩) 1 1] 86)) w.heap.size (w.heap.size + 1) w.heap.size 1 0 [.map none, .slice none 0 0] (fun _ => none) (fun _ => .slice none 0 0) TM.init := by
 have hs : (w.alloc (.cells #[.map none, .slice none 0 0] 90)).heap.size = w.heap.size + 1 := by simp
 refine ⟨TM.Ok.init, by omega, ?_, ?_, ?_, ?_, fun i b h => by simp at h, fun _ _ => rfl, fun _ _ => rfl, fun i r _ => rfl, fun i => own_nil _ _ _ _, fun i j b h => by simp at h, fun i j _ => ne_nil _⟩
 ·have := blk_new (w.alloc (.cells #[.map none, .slice none 0 0] 90)) (.cells #[.slice (some ⟨w.heap.size, 0, none⟩) 1 1] 86)
  rw [hs] at this
  exact this
 ·exact (World.ownsRow_lit (base := w.heap.size) (e := 90) (size := 2) w #[.map none, .slice none 0 0] 1 (Nat.le_refl _) (by simp [maxLen]) rfl).alloc _
 ·intro i hi
  have : i = 0 := by simp only [TM.init] at hi; omega
  subst this
  rfl
 ·intro i hi
  have : i = 0 := by simp only [TM.init] at hi; omega
  subst this
  rfl
theorem make_take_succ (l : List S39) (k : Nat) (h : k < l.length) : make ((l.map pq).take (k + 1)) = (make ((l.map pq).take k)).insert (pq (rd_T39 l k)) := by
 have hk : k < (l.map pq).length := by simpa using h
 rw [List.take_succ_eq_append_getElem hk]
 unfold make
 rw [List.foldl_append]
 simp [rd_T39, List.getD_eq_getElem?_getD, List.getElem?_eq_getElem h]
theorem walk_take_succ (T : TM) (ls : List Int) (k : Nat) (h : k < ls.length) : (T.walk (ls.take (k + 1))) = TM.step (T.walk (ls.take k)) (ls.getD k 0) := by
 rw [List.take_succ_eq_append_getElem h]
 unfold TM.walk
 rw [List.foldl_append]
 simp [List.getD_eq_getElem?_getD, List.getElem?_eq_getElem h]
theorem node0_one : ∀ u ∈ [Value.map none, Value.slice none 0 0], u.oneCell' = true := by
 intro u hu
 simp at hu
 rcases hu with rfl | rfl <;> rfl
theorem at_block {g g' n n' c c' N : Nat} (h : (Value.slice (some ⟨g, 0, none⟩) n c).ownBlock = (Value.slice (some ⟨g', 0, none⟩) n' c').ownBlock ∨ ∃ b, (Value.slice (some ⟨g, 0, none⟩) n c).ownBlock = some b ∧ N ≤ b) : g = g' ∨ N ≤ g := by
 rcases h with h | ⟨b, h, hb⟩
 ·exact .inl (by simpa [Value.ownBlock] using h)
 ·have : g = b := by simpa [Value.ownBlock] using h
  exact .inr (by omega)
theorem below_map {w w1 w2 : World} {bt bn cap K : Nat} {xs : List Value} {ms : Nat → Option Nat} {vs : Nat → Value} {T : TM} (h : TrieM w1 w.heap.size bt bn cap K xs ms vs T) {i b : Nat} (hm : ms i = some b) (hb : Below w.heap.size w w1) (hg : w1.grownBy w2 (some b)) : Below w.heap.size w w2 :=
 hb.grown hg hb.size (fun k hk => by injection hk with hk; exact hk ▸ h.mb i _ hm)
theorem top_map {w w1 w2 : World} {bt bn cap K : Nat} {xs : List Value} {ms : Nat → Option Nat} {vs : Nat → Value} {T : TM} (h : TrieM w1 w.heap.size bt bn cap K xs ms vs T) {i b : Nat} (hm : ms i = some b) (hg : w1.grownBy w2 (some b)) : w2.cell? ⟨bt, 0, none⟩ = some (.slice (some ⟨bn, 0, none⟩) T.n cap) :=
 hg.cell h.cellT (by intro e; injection e with e; exact h.m_cells hm h.top e.symm)
theorem letters_append (l l' : List (List Int × List Int)) : letters (l ++ l') = letters l + letters l' := by simp [letters]
theorem letters_take (l : List S39) (k : Nat) (h : k < l.length) : letters ((l.map pq).take k) + (rd_T39 l k).f0.length ≤ letters (l.map pq) := by
 have hk : k < (l.map pq).length := by simpa using h
 have h1 : l.map pq = (l.map pq).take k ++ ((l.map pq)[k] :: (l.map pq).drop (k + 1)) := by rw [← List.drop_eq_getElem_cons hk, List.take_append_drop]
 have h2 := congrArg letters h1
 rw [letters_append] at h2
 have h3 : letters ((l.map pq)[k] :: (l.map pq).drop (k + 1)) = (rd_T39 l k).f0.length + letters ((l.map pq).drop (k + 1)) := by
  simp [letters, rd_T39, List.getD_eq_getElem?_getD, List.getElem?_eq_getElem h, pq]
 omega
theorem rd_T39_mem (l : List S39) (k : Nat) (h : k < l.length) : rd_T39 l k ∈ l := by
 simp [rd_T39, List.getD_eq_getElem?_getD, List.getElem?_eq_getElem h]
theorem rd_mem (l : List Int) (k : Nat) (h : k < l.length) : rd l k ∈ l := by
 simp [rd, List.getD_eq_getElem?_getD, List.getElem?_eq_getElem h]
theorem rd_getD (l : List Int) (k : Nat) : l.getD k 0 = rd l (k : Int) := by simp [rd]
set_option maxHeartbeats 4000000 in
set_option maxRecDepth 100000 in
theorem make_calls (l : List S39) (A : Option Addr) (c : Nat) (w : World) (hr : Kd.C k39 w A l.length l) (hc : l.length ≤ c) (h32 : ∀ p ∈ l, ∀ r ∈ p.f0, In32 r) (hL : letters (l.map pq) ≤ 1099511627776) (hV : ∀ p ∈ l, p.f1.length ≤ 1099511627776) :
  Calls Try.prog 19 #[.slice A l.length c] w fun e w' => ∃ bt, e = .returned (.pointer (some ⟨bt, 0, none⟩)) ∧ TrieAt w' w.heap.size bt (make (l.map pq)) ∧ Below w.heap.size w w' := by
 have HR := Aside0.mk hr
 have hmax : l.length ≤ 9223372036854775807 := Kd.C_max hr
 have HC := Aside0.mk hc
 have H32 := Aside0.mk h32
 have HL := Aside0.mk hL
 have HV := Aside0.mk hV
 clear hr hc h32 hL hV
 have hmk := mk84
 go_enter Try.func19, Try.ntmps19
 go_wp2
 clear hmk
 go_loopg [19] l.length (fun g v19 w' => ∃ k : Nat, v19 = .int .i64 k ∧ Aside0 (g + k = l.length) ∧ Aside0 (TrieAt w' w.heap.size (w.heap.size + 1) (make ((l.map pq).take k))) ∧ Aside0 (Below w.heap.size w w'))
 case atStart => exact ⟨0, rfl, ⟨rfl⟩, ⟨_, _, _, _, _, _, Nat.zero_le _, TrieM.start w⟩, ⟨below_alloc (below_alloc (Below.refl _ _) _) _⟩⟩
 case round =>
  obtain ⟨k, rfl, HG, HT, HB⟩ := hrel
  by_cases hk : k < l.length
  ·have p1 : (0 : Int) ≤ (k : Int) := by omega
   have q1 : (k : Int) < (l.length : Int) := by omega
   obtain ⟨ad, A0, c0, A1, c1, e1, hx0, hx1, hl0, hi0, hl1, hi1⟩ := at_T39 HR.out (k : Int) p1 q1
   subst e1
   replace hx0 := (HB.out.cell (World.block_lt_of_cell? w _ hx0)).trans hx0
   replace hx1 := (HB.out.cell (World.block_lt_of_cell? w _ hx1)).trans hx1
   simp only [Int.toNat_natCast] at hx0 hx1
   obtain ⟨p, hp⟩ : ∃ p, rd_T39 l (k : Int) = p := ⟨_, rfl⟩
   rw [hp] at hx0 hx1 hl0 hi0 hl1 hi1
   have HP := Aside0.mk hp
   clear hp
   have HR0 := Aside0.mk hi0
   have HC0 := Aside0.mk hl0
   have HR1 := Aside0.mk hi1
   have HC1 := Aside0.mk hl1
   clear hi0 hl0 hi1 hl1
   go_wp2_with fail
   obtain ⟨wo, rfl⟩ : ∃ wo : World, wo = wr := ⟨_, rfl⟩
   obtain ⟨T0, hT0⟩ : ∃ T0, make ((l.map pq).take k) = T0 := ⟨_, rfl⟩
   rw [hT0] at HT
   have hk0 := TM.Ok.make ((l.map pq).take k)
   rw [hT0] at hk0
   have hk1 := letters_take l k hk
   rw [HP.out] at hk1
   have hpm : p ∈ l := HP.out ▸ rd_T39_mem l k hk
   have HT0 := Aside0.mk hT0
   have HK0 : Aside0 (T0.Ok ∧ T0.n + p.f0.length ≤ 1099511627777) := ⟨hk0.1, by have := hk0.2; have := HL.out; omega⟩
   have HPM := Aside0.mk hpm
   have hpl : p.f0.length ≤ 1099511627777 := by have := HK0.out.2; omega
   clear hT0 hk0 hk1 hpm
   go_loopg [6, 26] p.f0.length (fun g v6 v26 w' => ∃ j : Nat, v26 = .int .i64 j ∧ v6 = .int .i64 ((T0.walk (p.f0.take j)).2 : Nat) ∧ Aside0 (g + j = p.f0.length) ∧ Aside0 (TrieAt w' w.heap.size (w.heap.size + 1) (T0.walk (p.f0.take j)).1) ∧ Aside0 (w'.heap[wo.heap.size]? = some (.cells #[.slice A0 p.f0.length c0, .slice A1 p.f1.length c1] 39 (0, 0))) ∧ Aside0 (Below w.heap.size w w'))
   case atStart =>
    obtain ⟨bn, cap, K, xs, ms, vs, hK, hT⟩ := HT.out
    exact ⟨0, rfl, rfl, ⟨rfl⟩, ⟨bn, cap, K, xs, ms, vs, hK, hT.alloc _⟩, ⟨blk_new _ _⟩, ⟨below_alloc HB.out _⟩⟩
   case round =>
    obtain ⟨j, rfl, rfl, HG2, HT2, HP2, HB2⟩ := hrel
    have HT := HT2
    obtain ⟨bn, cap, K, xs, ms, vs, hK, hT⟩ := HT2.out
    clear HT2
    have hcT := hT.cellT
    by_cases hj : j < p.f0.length
    ·obtain ⟨i, hi⟩ : ∃ i, (T0.walk (p.f0.take j)).2 = i := ⟨_, rfl⟩
     obtain ⟨T1, hT1⟩ : ∃ T1, (T0.walk (p.f0.take j)).1 = T1 := ⟨_, rfl⟩
     have hw : T0.walk (p.f0.take (j + 1)) = TM.step (T1, i) (p.f0.getD j 0) := by rw [walk_take_succ T0 p.f0 j hj, ← hi, ← hT1]
     rw [hi]
     rw [hT1] at hT hcT hK
     have hwk := TM.Ok.walkTo (s := (T0, 0)) HK0.out.1 HK0.out.1.pos (p.f0.take j)
     have hiT : i < T1.n := by rw [← hi, ← hT1]; exact hwk.2.1
     have hnT : T1.n ≤ 1099511627777 := by rw [← hT1]; have h1 := hwk.2.2.2; have h2 := HK0.out.2; simp only [List.length_take] at h1; unfold TM.walk; omega
     clear hwk
     clear hi hT1
     have HW := Aside0.mk hw
     clear hw
     have p2 : (0 : Int) ≤ (j : Int) := by omega
     have q2 : (j : Int) < (p.f0.length : Int) := by omega
     obtain ⟨ad2, e2, hx2⟩ := Kd.at_int HR0.out (j : Int) p2 q2
     subst e2
     simp only [Int.toNat_natCast] at hx2
     have hx3 : wr.cell? (ad2.add j) = some (.int .i32 (rd p.f0 (j : Int))) := (HB2.out.cell (World.block_lt_of_cell? w _ hx2)).trans hx2
     obtain ⟨r, hr⟩ : ∃ r, rd p.f0 (j : Int) = r := ⟨_, rfl⟩
     rw [hr] at hx3
     have hr32 : In32 r := hr ▸ H32.out p HPM.out _ (rd_mem p.f0 j hj)
     have HRr := Aside0.mk hr
     clear hr hx2
     have hcM := hT.cellM hiT
     have q3 : (i : Int) < (T1.n : Int) := by omega
     cases hn : T1.next i r with
     | some m =>
      have hlook := (hT.mo i).look hr32
      rw [hn] at hlook
      simp only [Option.getD_some, Option.isSome_some] at hlook
      have Hn := Aside0.mk hn
      clear hn
      go_wp2_with fail
      have hs : T0.walk (p.f0.take (j + 1)) = (T1, m) := by rw [HW.out, rd_getD, HRr.out]; simp [TM.step, Hn.out]
      go_roundg (p.f0.length - (j + 1))
      case measure => have := HG2.out; omega
      case rel => exact ⟨j + 1, by go_num, by rw [hs], ⟨by omega⟩, ⟨bn, cap, K, xs, ms, vs, by rw [hs]; exact hK, by rw [hs]; exact hT⟩, HP2, HB2⟩
     | none =>
      have hlook : (Instr.lookup 88 (.map (ms i)) (.int .i32 r) true).run Try.prog wr = .ok (.tuple #[.int .i64 0, .bool false]) wr := by
       have := (hT.mo i).look hr32
       rw [hn] at this
       exact this
      have Hn := Aside0.mk hn
      clear hn
      cases hm : ms i with
      | none =>
       rw [hm] at hlook hcM
       have Hm := Aside0.mk hm
       clear hm
       have hmm := @run_makeMap Try.prog
       have hq := fun w => run_eql_map_nil (P := Try.prog) w _ _ _ none Try.underlying88
       simp only [Option.isNone_none] at hq
       obtain ⟨cells, hcells, hsz⟩ := hT.cells_bn
       have HCE := Aside0.mk (blk_alloc hcells (.map #[] 0))
       clear hcells
       go_wp2_with (first | (refine gate_ (.store 88 (.tmp 66) (.tmp 64)) rfl ?_; refine store1 (u := .map (some wr.heap.size)) rfl rfl 88 (.tmp 66) (.tmp 64) rfl rfl rfl rfl size88 rfl HCE.out (by omega) ?_; intro w1 hw1; have HT1 := Aside0.mk (hT.newMap hiT Hm.out); rw [← hw1] at HT1; have HB1 := Aside0.mk (below_set (below_alloc HB2.out (.map #[] 0)) hT.base_bn (j := i * 2) (v := .map (some wr.heap.size))); rw [← hw1] at HB1; have HP1 := Aside0.mk (hT.side_newMap HP2.out (.map #[] 0) (i * 2) (.map (some wr.heap.size))); rw [← hw1] at HP1; have c1 := HT1.out.cellT; have c2 := HT1.out.cellM hiT; have hmo := HT1.out.mo i; simp only [if_true] at c2 hmo; have Hm1 : Aside0 ((fun j_ => if j_ = i then some wr.heap.size else ms j_) i = some wr.heap.size) := ⟨by simp⟩; obtain ⟨D, ho_, hdm_, hdf_⟩ := hmo; have HOWN := Aside0.mk ho_; have HDM := Aside0.mk hdm_; have HDF := Aside0.mk hdf_; clear hw1 ho_ hdm_ hdf_) | (at_mapUpdate; (refine wpList_mapUpdate_own _ rfl (.tmp 74) (.tmp 75) (.tmp 76) 88 rfl 21 3 law21 Try.underlying88 _ wr.heap.size K D rfl HOWN.out (by simp only [maxLen]; omega) _ _ (.int .i32 r) rfl rfl (Maps.keyOf_int_mk Try.underlying21 hr32.wf) (.lit (.int .i64 (T1.n : Int))) [] (plainElem_int Try.underlying3 (WalkArith.wf_i64 (by omega))) ?_; intro w2 hown2 hg2; have HOWN2 := Aside0.mk hown2; have HG2m := Aside0.mk hg2; have c3 := top_map HT1.out Hm1.out hg2; have HO2 := Aside0.mk (HT1.out.row_put Hm1.out hg2); have HB2m := Aside0.mk (below_map HT1.out Hm1.out HB1.out hg2); clear hown2 hg2)) | (at_builtin; (refine print_append_cells (w0 := w) w.heap.size rfl (.tmp 81) (.tmp 83) 84 90 (.agg #[.map none, .slice none 0 0]) 2 32 rfl Try.underlying84 info90 rfl (by decide) (by decide) (.slice (some ⟨bn, 0, none⟩) T1.n cap) T1.n _ [.map none, .slice none 0 0] rfl rfl rfl node0_one HO2.out HB2m.out (below_size HB2m.out) (by omega) ?_; intro v3 w3 hown3 hb3 hg3 hat3; obtain ⟨g3, cap3, hv3, _, _⟩ := hown3.form (by omega); rw [hv3] at hown3 hat3 ⊢; have HOWN3 := Aside0.mk hown3; have HG3 := Aside0.mk hg3; have HB3 := Aside0.mk hb3; have HAT3 := Aside0.mk (at_block hat3); have HTOP3 := Aside0.mk (HT1.out.top_addNode Hm1.out HG2m.out hg3).2; clear hown3 hb3 hg3 hat3 hv3)) | (refine gate_ (.store 84 (.tmp 86) (.tmp 84)) rfl ?_; (refine store1 (u := .slice (some ⟨g3, 0, none⟩) (T1.n + 1) cap3) rfl rfl 84 (.tmp 86) (.tmp 84) rfl rfl rfl rfl size84 rfl HTOP3.out Nat.zero_lt_one ?_; intro w4 hw4; have HT4 := Aside0.mk (HT1.out.addNode hiT Hm1.out HDM.out HDF.out HOWN2.out HG2m.out HOWN3.out HG3.out HAT3.out); rw [← hw4] at HT4; have HP4 := Aside0.mk (HT1.out.side_addNode Hm1.out HP1.out HG2m.out HG3.out (.slice (some ⟨g3, 0, none⟩) (T1.n + 1) cap3)); rw [← hw4] at HP4; have HB4 := Aside0.mk (below_set HB3.out HT1.out.hb (j := 0) (v := .slice (some ⟨g3, 0, none⟩) (T1.n + 1) cap3)); rw [← hw4] at HB4; clear hw4)))
       have hs : T0.walk (p.f0.take (j + 1)) = (T1.add i r, T1.n) := by rw [HW.out, rd_getD, HRr.out]; simp [TM.step, Hn.out]
       go_roundg (p.f0.length - (j + 1))
       case measure => have := HG2.out; omega
       case rel => exact ⟨j + 1, by go_num, by rw [hs], ⟨by omega⟩, ⟨_, _, _, _, _, _, by rw [hs]; exact Nat.succ_le_succ hK, by rw [hs]; exact HT4.out⟩, HP4, HB4⟩
      | some b =>
       rw [hm] at hlook hcM
       have Hm1 : Aside0 (ms i = some b) := ⟨hm⟩
       have hmo := hT.mo i
       rw [hm] at hmo
       clear hm
       obtain ⟨D, ho_, hdm_, hdf_⟩ := hmo
       have HOWN := Aside0.mk ho_
       have HDM := Aside0.mk hdm_
       have HDF := Aside0.mk hdf_
       clear ho_ hdm_ hdf_
       have HT1 := Aside0.mk hT
       have HB1 := HB2
       have HP1 := HP2
       have hq := fun w => run_eql_map_nil (P := Try.prog) w _ _ _ (some b) Try.underlying88
       simp only [Option.isNone_some] at hq
       go_wp2_with (first | (at_mapUpdate; (refine wpList_mapUpdate_own _ rfl (.tmp 74) (.tmp 75) (.tmp 76) 88 rfl 21 3 law21 Try.underlying88 _ b K D rfl HOWN.out (by simp only [maxLen]; omega) _ _ (.int .i32 r) rfl rfl (Maps.keyOf_int_mk Try.underlying21 hr32.wf) (.lit (.int .i64 (T1.n : Int))) [] (plainElem_int Try.underlying3 (WalkArith.wf_i64 (by omega))) ?_; intro w2 hown2 hg2; have HOWN2 := Aside0.mk hown2; have HG2m := Aside0.mk hg2; have c3 := top_map HT1.out Hm1.out hg2; have HO2 := Aside0.mk (HT1.out.row_put Hm1.out hg2); have HB2m := Aside0.mk (below_map HT1.out Hm1.out HB1.out hg2); clear hown2 hg2)) | (at_builtin; (refine print_append_cells (w0 := w) w.heap.size rfl (.tmp 81) (.tmp 83) 84 90 (.agg #[.map none, .slice none 0 0]) 2 32 rfl Try.underlying84 info90 rfl (by decide) (by decide) (.slice (some ⟨bn, 0, none⟩) T1.n cap) T1.n _ [.map none, .slice none 0 0] rfl rfl rfl node0_one HO2.out HB2m.out (below_size HB2m.out) (by omega) ?_; intro v3 w3 hown3 hb3 hg3 hat3; obtain ⟨g3, cap3, hv3, _, _⟩ := hown3.form (by omega); rw [hv3] at hown3 hat3 ⊢; have HOWN3 := Aside0.mk hown3; have HG3 := Aside0.mk hg3; have HB3 := Aside0.mk hb3; have HAT3 := Aside0.mk (at_block hat3); have HTOP3 := Aside0.mk (HT1.out.top_addNode Hm1.out HG2m.out hg3).2; clear hown3 hb3 hg3 hat3 hv3)) | (refine gate_ (.store 84 (.tmp 86) (.tmp 84)) rfl ?_; (refine store1 (u := .slice (some ⟨g3, 0, none⟩) (T1.n + 1) cap3) rfl rfl 84 (.tmp 86) (.tmp 84) rfl rfl rfl rfl size84 rfl HTOP3.out Nat.zero_lt_one ?_; intro w4 hw4; have HT4 := Aside0.mk (HT1.out.addNode hiT Hm1.out HDM.out HDF.out HOWN2.out HG2m.out HOWN3.out HG3.out HAT3.out); rw [← hw4] at HT4; have HP4 := Aside0.mk (HT1.out.side_addNode Hm1.out HP1.out HG2m.out HG3.out (.slice (some ⟨g3, 0, none⟩) (T1.n + 1) cap3)); rw [← hw4] at HP4; have HB4 := Aside0.mk (below_set HB3.out HT1.out.hb (j := 0) (v := .slice (some ⟨g3, 0, none⟩) (T1.n + 1) cap3)); rw [← hw4] at HB4; clear hw4)))
       have hs : T0.walk (p.f0.take (j + 1)) = (T1.add i r, T1.n) := by rw [HW.out, rd_getD, HRr.out]; simp [TM.step, Hn.out]
       go_roundg (p.f0.length - (j + 1))
       case measure => have := HG2.out; omega
       case rel => exact ⟨j + 1, by go_num, by rw [hs], ⟨by omega⟩, ⟨_, _, _, _, _, _, by rw [hs]; exact Nat.succ_le_succ hK, by rw [hs]; exact HT4.out⟩, HP4, HB4⟩
    ·have hje : j = p.f0.length := by have := HG2.out; omega
     have htk : p.f0.take j = p.f0 := by rw [hje, List.take_length]
     rw [htk] at hT hK hcT
     clear HT
     rw [htk]
     clear htk hje
     obtain ⟨i, hi⟩ : ∃ i, (T0.walk p.f0).2 = i := ⟨_, rfl⟩
     obtain ⟨T1, hT1⟩ : ∃ T1, (T0.walk p.f0).1 = T1 := ⟨_, rfl⟩
     have hwk := TM.Ok.walkTo (s := (T0, 0)) HK0.out.1 HK0.out.1.pos p.f0
     have hiT : i < T1.n := by rw [← hi, ← hT1]; exact hwk.2.1
     have hwn : (T0.walk p.f0).1.n ≤ T0.n + p.f0.length := hwk.2.2.2
     have hnT : T1.n ≤ 1099511627777 := by rw [← hT1]; have h2 := HK0.out.2; omega
     clear hwk hwn
     have hw : T0.walk p.f0 = (T1, i) := by rw [← hi, ← hT1]
     rw [hT1] at hT hK hcT
     rw [hi]
     have HW := Aside0.mk hw
     clear hi hT1 hw
     have q3 : (i : Int) < (T1.n : Int) := by omega
     have hcB : wr.cell? ⟨wo.heap.size, 1, none⟩ = some (.slice A1 p.f1.length c1) := by rw [blk_cell HP2.out 1]; rfl
     have hpv : p.f1.length ≤ 1099511627776 := HV.out p HPM.out
     go_wp2_with fail
     clear hcB hcT hj
     obtain ⟨wo2, rfl⟩ : ∃ wo : World, wo = wr := ⟨_, rfl⟩
     go_loopg [98] p.f1.length (fun g v98 w' => ∃ q : Nat, v98 = .int .i64 q ∧ Aside0 (g + q = p.f1.length) ∧ Aside0 (∃ xs vs, TrieM w' w.heap.size (w.heap.size + 1) bn cap K xs ms vs (T1.setVals i (mergeTo (T1.vals i) p.f1 q))) ∧ Aside0 (Below w.heap.size w w'))
     case atStart => exact ⟨0, rfl, ⟨rfl⟩, ⟨xs, vs, by rw [mergeTo_zero, setVals_same]; exact hT⟩, HB2⟩
     case round =>
      obtain ⟨q, rfl, HG3, HT3, HB3⟩ := hrel
      obtain ⟨xs, vs, hT⟩ := HT3.out
      clear HT3
      by_cases hq : q < p.f1.length
      ·obtain ⟨T2, hT2⟩ : ∃ T2, T1.setVals i (mergeTo (T1.vals i) p.f1 q) = T2 := ⟨_, rfl⟩
       rw [hT2] at hT
       have hiT2 : i < T2.n := by rw [← hT2]; exact hiT
       have hv2 : T2.vals i = mergeTo (T1.vals i) p.f1 q := by rw [← hT2]; simp [TM.setVals]
       have hlen : q ≤ (T2.vals i).length := by rw [hv2, mergeTo_length]; omega
       have HT2 := Aside0.mk hT2
       have HV2 := Aside0.mk hv2
       clear hT2 hv2
       have p2 : (0 : Int) ≤ (q : Int) := by omega
       have q2 : (q : Int) < (p.f1.length : Int) := by omega
       obtain ⟨ad2, e2, hx2⟩ := Kd.at_int HR1.out (q : Int) p2 q2
       subst e2
       simp only [Int.toNat_natCast] at hx2
       have hx3 : wr.cell? (ad2.add q) = some (.int .u8 (rd p.f1 (q : Int))) := (HB3.out.cell (World.block_lt_of_cell? w _ hx2)).trans hx2
       obtain ⟨v, hv⟩ : ∃ v, rd p.f1 (q : Int) = v := ⟨_, rfl⟩
       rw [hv] at hx3
       have HVv := Aside0.mk hv
       clear hv hx2
       have hcV := hT.cellV hiT2
       obtain ⟨Av, cv, hvs⟩ := own_slice (hT.vo i)
       rw [hvs] at hcV
       have HVS := Aside0.mk hvs
       clear hvs
       by_cases hfit : q < (T2.vals i).length
       ·obtain ⟨gv, cv2, hvs, hgb, hgl⟩ := (hT.vo i).form (by omega)
        rw [HVS.out] at hvs
        injection hvs with e1 e2 e3
        subst e1 e3
        have hown := hT.vo i
        rw [HVS.out] at hown
        have hg1 := (own_at hown (q : Int) p2 (by omega)).1
        have hg2 := (own_at hown (q : Int) p2 (by omega)).2
        simp only [Int.toNat_natCast] at hg1 hg2
        obtain ⟨x, hx⟩ : ∃ x, rd (T2.vals i) (q : Int) = x := ⟨_, rfl⟩
        rw [hx] at hg1
        have HX := Aside0.mk hx
        clear hx hown
        have q4 : (q : Int) < ((T2.vals i).length : Int) := by omega
        go_wp2_with fail
        go_region
        go_wp2_with fail
        all_goals
         go_roundg (p.f1.length - (q + 1))
         case measure => have := HG3.out; omega
         case rel => exact ⟨q + 1, by go_num, ⟨by have := HG3.out; omega⟩, ⟨xs, vs, hT.round_fit hiT2 HVS.out HT2.out hfit HX.out HVv.out (by omega)⟩, ⟨below_drew (below_set HB3.out hgb)⟩⟩
       ·obtain ⟨L1, hL1⟩ : ∃ L1, T2.vals i ++ [0] = L1 := ⟨_, rfl⟩
        have hl1 : q < L1.length := by rw [← hL1, List.length_append, List.length_singleton]; omega
        have hlm : (T2.vals i).length ≤ 1099511627776 := by omega
        have HL1 := Aside0.mk hL1
        have hown := hT.vo i
        rw [HVS.out] at hown
        have HOV := Aside0.mk hown
        clear hown hL1
        go_wp2_with (first | (at_builtin; (refine print_append_num (w0 := w) w.heap.size rfl (.tmp 114) (.tmp 115) 27 5 .u8 1 rfl Try.underlying27 info5 (by decide) (.slice Av (T2.vals i).length cv) (T2.vals i) 0 rfl rfl HOV.out HB3.out (below_size HB3.out) (by omega) ?_; intro v1 w1 hown1 hb1 hg1 hat1; rw [HL1.out] at hown1; obtain ⟨g1, cap1, hv1, hgb1, _⟩ := hown1.form (by omega); rw [← HVS.out] at hg1 hat1; obtain ⟨cells, hcells, hsz⟩ := hT.cells_grow hg1; have HT6' := Aside0.mk (hT.growVal hiT2 hown1 hg1 hat1); rw [hv1] at HT6' ⊢; have HB6' := Aside0.mk (below_set (j := i * 2 + 1) (v := .slice (some ⟨g1, 0, none⟩) L1.length cap1) hb1 hT.base_bn); have HCE := Aside0.mk hcells; clear hown1 hb1 hg1 hat1 hv1 hcells)) | (refine gate_ (.store 27 (.tmp 118) (.tmp 116)) rfl ?_; (refine store1 (u := .slice (some ⟨g1, 0, none⟩) L1.length cap1) rfl rfl 27 (.tmp 118) (.tmp 116) rfl rfl rfl rfl size27 rfl HCE.out (by omega) ?_; intro w6 hw6; rw [← hw6] at HT6' HB6'; clear hw6)))
        have hT6 := HT6'.out
        have hcV6 := hT6.cellV hiT2
        have hown := hT6.vo i
        simp only [TM.setVals, if_true] at hcV6 hown
        have hg1 := (own_at hown (q : Int) p2 (by omega)).1
        have hg2 := (own_at hown (q : Int) p2 (by omega)).2
        simp only [Int.toNat_natCast] at hg1 hg2
        obtain ⟨x, hx⟩ : ∃ x, rd L1 (q : Int) = x := ⟨_, rfl⟩
        rw [hx] at hg1
        have HX := Aside0.mk hx
        clear hx hown
        have q4 : (q : Int) < (L1.length : Int) := by omega
        go_region
        go_wp2_with fail
        all_goals
         go_roundg (p.f1.length - (q + 1))
         case measure => have := HG3.out; omega
         case rel => exact ⟨q + 1, by go_num, ⟨by have := HG3.out; omega⟩, ⟨_, _, hT6.round_grown hiT2 (if_pos rfl) HT2.out HL1.out (by omega) HX.out HVv.out (by omega)⟩, ⟨below_drew (below_set HB6'.out hgb1)⟩⟩
      ·have hqe : q = p.f1.length := by have := HG3.out; omega
       rw [hqe] at hT
       clear hqe
       have hnext : make ((l.map pq).take (k + 1)) = T1.setVals i (mergeTo (T1.vals i) p.f1 p.f1.length) := by
        rw [make_take_succ l k hk, HP.out, HT0.out]
        show (T0.walk p.f0).1.setVals (T0.walk p.f0).2 (mergeTo ((T0.walk p.f0).1.vals (T0.walk p.f0).2) p.f1 p.f1.length) = _
        rw [HW.out]
       have HN := Aside0.mk hnext
       clear hnext
       go_wp2_with fail
       go_roundg (l.length - (k + 1))
       case measure => have := HG.out; omega
       case rel => exact ⟨k + 1, by go_num, ⟨by omega⟩, ⟨_, _, _, _, _, _, by rw [HN.out]; exact hK, by rw [HN.out]; exact hT⟩, HB3⟩
  ·have hke : k = l.length := by have := HG.out; omega
   have hT := HT.out
   rw [hke, List.take_of_length_le (by simp)] at hT
   have HT' := Aside0.mk hT
   clear hT hke HT
   go_wp2_with fail
   go_ret
   exact ⟨_, rfl, HT'.out, HB.out⟩
end Go.Proofs.Ytoefjhdcipgacaa.Tr
end
section
namespace Go.Proofs.Ytoefjhdcipgacaa.Tr
open Go.RowKit Go.Proofs.YtoefjhdcipgacaaW.PrintWords Go.Proofs.YtoefjhdcipgacaaW.PrintLast Go.Proofs.YtoefjhdcipgacaaW.PrintMore
open Go.Proofs.Ytoefjhdcipgacaa.PA
attribute [local go_sem] max2_int min2_int max_two min_two
def zeros (word : List Int) : List Int := List.replicate (word.length + 1) 0
def wholeOf (word : List Int) : List Int := 46 :: word ++ [46]
theorem zeros_eq (word : List Int) : List.replicate ((word.length : Int) + 1).toNat (0 : Int) = zeros word := by
 unfold zeros; congr 1
theorem zeros_pos (word : List Int) : 0 < (zeros word).length := by simp [zeros]
theorem zeros_length (word : List Int) : (zeros word).length = word.length + 1 := by simp [zeros]
theorem whole_eq (word : List Int) : [46] ++ word ++ [46] = wholeOf word := rfl
theorem whole_length (word : List Int) : (wholeOf word).length = word.length + 2 := by simp [wholeOf]
theorem bump_hit {O V : List Int} {s q : Nat} (h1 : 1 ≤ s + q) {n : Nat} (hl : (bumpTo O V s q).length = n) (h2 : s + q - 1 < n) {x v y : Int} (hx : rdOf (0 : Int) (bumpTo O V s q) ((s + q - 1 : Nat) : Int) = x) (hv : rd V (q : Int) = v) (hy : y = max x v) :
  bumpTo O V s (q + 1) = (bumpTo O V s q).set (s + q - 1) y := by
 rw [bumpTo_succ]
 unfold bumpAt
 rw [if_pos ⟨h1, by omega⟩, hy, ← hx, ← hv]
 simp [rd, rdOf]
theorem bump_miss {O V : List Int} {s q n : Nat} (hl : (bumpTo O V s q).length = n) (h : s + q = 0 ∨ n ≤ s + q - 1) : bumpTo O V s (q + 1) = bumpTo O V s q := by
 rw [bumpTo_succ]
 unfold bumpAt
 rw [if_neg]
 intro h1
 omega
theorem out_put {W : World} {base g cap n d : Nat} {ok : Nat → Prop} {ys : List Int} (h : Kd.R (Kd.int .u8) 5 W base ok (.slice (some ⟨g, 0, none⟩) ys.length cap) ys) (hn : ys.length = n) (y : Int) :
  Kd.R (Kd.int .u8) 5 (W.setCell ⟨g, d, none⟩ (.int .u8 y)) base ok (.slice (some ⟨g, 0, none⟩) n cap) (ys.set d y) := by
 subst hn
 have := (Kd.R_put h (d : Int) y).1
 simp only [Int.toNat_natCast] at this
 exact this
theorem bump_round {W : World} {base g cap n s q : Nat} {ok : Nat → Prop} {O V : List Int} (h : Kd.R (Kd.int .u8) 5 W base ok (.slice (some ⟨g, 0, none⟩) n cap) (bumpTo O V s q)) (h1 : 1 ≤ s + q) (hl : (bumpTo O V s q).length = n) (h2 : s + q - 1 < n) {x v y : Int}
  (hx : rdOf (0 : Int) (bumpTo O V s q) ((s + q - 1 : Nat) : Int) = x) (hv : rd V (q : Int) = v) (hy : y = max x v) :
  Kd.R (Kd.int .u8) 5 (W.setCell ⟨g, s + q - 1, none⟩ (.int .u8 y)) base ok (.slice (some ⟨g, 0, none⟩) n cap) (bumpTo O V s (q + 1)) := by
 rw [bump_hit h1 hl h2 hx hv hy]
 exact out_put (hl ▸ h) hl y
theorem whole_put {W : World} {base base' g cap n d : Nat} {ok ok' : Nat → Prop} {ys zs : List Int} {v : Value} (hw : Kd.R (Kd.int .i32) 21 W base' ok' v zs) (h : Kd.R (Kd.int .u8) 5 W base ok (.slice (some ⟨g, 0, none⟩) n cap) ys) (y : Int) :
  Kd.R (Kd.int .i32) 21 (W.setCell ⟨g, d, none⟩ (.int .u8 y)) base' ok' v zs := by
 obtain ⟨inner, ho⟩ := Kd.R_own h
 obtain ⟨cells, hc⟩ := own_typed ho g rfl
 exact Kd.R_set hw hc (by decide) d _
theorem run_end {T : TM} {s i j : Nat} {O WL X : List Int} (h : T.run s O (WL.drop j) i = X) (hj : WL.length ≤ j) : bump O (T.vals i) s = X := by
 rw [List.drop_of_length_le hj] at h
 exact h
theorem run_some {T : TM} {s i j m : Nat} {O WL X : List Int} (h : T.run s O (WL.drop j) i = X) (hj : j < WL.length) {r : Int} (hr : rd WL (j : Int) = r) (hm : T.next i r = some m) : T.run s (bump O (T.vals i) s) (WL.drop (j + 1)) m = X := by
 rw [List.drop_eq_getElem_cons hj] at h
 have : WL[j] = r := by rw [← hr]; simp [rd, List.getD_eq_getElem?_getD, List.getElem?_eq_getElem hj]
 rw [this] at h
 unfold TM.run at h
 rwa [hm] at h
theorem run_none {T : TM} {s i j : Nat} {O WL X : List Int} (h : T.run s O (WL.drop j) i = X) (hj : j < WL.length) {r : Int} (hr : rd WL (j : Int) = r) (hm : T.next i r = none) : bump O (T.vals i) s = X := by
 rw [List.drop_eq_getElem_cons hj] at h
 have : WL[j] = r := by rw [← hr]; simp [rd, List.getD_eq_getElem?_getD, List.getElem?_eq_getElem hj]
 rw [this] at h
 unfold TM.run at h
 rwa [hm] at h
set_option maxHeartbeats 4000000 in
set_option maxRecDepth 100000 in
theorem values_calls (base bt : Nat) (T : TM) (A : Option Addr) (c : Nat) (word : List Int) (w : World) (hT : TrieAt w base bt T) (hr : Kd.C (Kd.int .i32) w A word.length word) (hc : word.length ≤ c) (h32 : ∀ r ∈ word, In32 r) (hn : word.length ≤ 1099511627776) (hv : ∀ i, (T.vals i).length ≤ 1099511627776) :
  Calls Try.prog 20 #[.pointer (some ⟨bt, 0, none⟩), .slice A word.length c] w fun e w' => ∃ v, e = .returned v ∧ Kd.R (Kd.int .u8) 5 w' w.heap.size (fun _ => True) v (values T word) ∧ Below w.heap.size w w' := by
 have HR := Aside0.mk hr
 have HC := Aside0.mk hc
 have H32 := Aside0.mk h32
 have HV := Aside0.mk hv
 obtain ⟨bn, cap, K, xs, ms, vs, _, hT⟩ := hT
 have HT := Aside0.mk hT
 clear hr hc h32 hv hT
 go_enter Try.func20, Try.ntmps20
 go_wp2_with (first | (at_make; (refine Kd.R_make (Kd.int .u8) (w0 := w) w.heap.size 5 rfl (N := 18) rfl 27 (.tmp 17) (.tmp 17) rfl ((word.length : Int) + 1) rfl rfl Try.underlying27 (.int .u8 0) 1 info5 rfl (by decide) (by decide) (0 : Int) (ok := fun _ => True) (okp := fun _ => False) rfl (fun _ h => h.elim) trivial (by omega) (by omega) (Below.refl _ _) (Nat.le_refl _) ?_; intro v1 w1 ho1 hb1 hg1 hn1; clear hg1 hn1; rw [zeros_eq] at ho1; obtain ⟨go_, cap1, hv1, _, _, _⟩ := Kd.R_form ho1 (zeros_pos word); rw [hv1] at ho1 ⊢; have HO1 := Aside0.mk ho1; have HB1 := Aside0.mk hb1; clear ho1 hb1 hv1)) | ((with_reducible refine gate_dst (N := 22) rfl ?_); (refine Kd.R_lit (Kd.int .i32) (w0 := w) w.heap.size 21 ?hg (N := 22) ?hd (xs := ([46] : List Int)) (inner := [.int .i32 46]) (ok := fun _ => True) (okp := fun _ => True) ?hr ?hp (fun _ hk => hk) trivial HB1.out (below_size HB1.out) (by simp) ?_; (case hd => rfl); (case hg => rfl); (case hr => first | (go_simp; done) | (go_simp; rfl)); (case hp => exact (Reps.one (show Kd.M (Kd.int .i32) _ _ _ 46 [.int .i32 46] from rfl) (Reps.none _ _))); intro v2 w2 ho2 hb2 hg2 hn2; clear hn2; have HO1a := Aside0.mk (Kd.R_grown HO1.out hg2 (fun k_ _ => by simp)); have HO2 := Aside0.mk ho2; have HB2 := Aside0.mk hb2; clear ho2 hb2 hg2)) | ((with_reducible refine gate_builtin (b := .append) (xs := #[.tmp 22, .tmp 23]) rfl ?_); at_builtin; (refine Kd.R_append_rows (Kd.int .i32) (w0 := w) w.heap.size rfl (.tmp 22) (.tmp 23) 23 21 (.int .i32 0) 4 rfl Try.underlying23 info21 rfl (by decide) (by omega) v2 [46] word _ _ _ (fun _ => True) (fun _ => False) rfl rfl HO2.out (Kd.C_below HR.out HB2.out) (fun _ _ h => h) (fun _ h => h.elim) (fun _ _ => trivial) HB2.out (below_size HB2.out) (by simp; omega) ?_; intro v3 w3 ho3 hb3 hg3 hat3; clear hat3; have HO1b := Aside0.mk (Kd.R_over HO1a.out HO2.out (by decide) hg3); have HO3 := Aside0.mk ho3; have HB3 := Aside0.mk hb3; clear ho3 hb3 hg3)) | ((with_reducible refine gate_builtin (b := .append) (xs := #[.tmp 24, .tmp 25]) rfl ?_); at_builtin; (refine Kd.R_append (Kd.int .i32) (w0 := w) w.heap.size rfl (.tmp 24) (.tmp 25) 23 21 (.int .i32 0) 4 rfl Try.underlying23 info21 rfl (by decide) (by omega) v3 ([46] ++ word) 46 [.int .i32 46] (fun _ => True) (fun _ => False) rfl rfl rfl (fun _ hk => hk.elim) (fun _ _ => trivial) HO3.out HB3.out (below_size HB3.out) (by simp; omega) ?_; intro v4 w4 ho4 hb4 hg4 hat4; clear hat4; have HO1c := Aside0.mk (Kd.R_over HO1b.out HO3.out (by decide) hg4); rw [whole_eq] at ho4; obtain ⟨A4, c4, hv4⟩ := Kd.R_slice ho4; rw [hv4] at ho4 ⊢; have HO4 := Aside0.mk ho4; have HB4 := Aside0.mk hb4; clear ho4 hb4 hg4 hv4)))
 obtain ⟨Z, hZ⟩ : ∃ Z, zeros word = Z := ⟨_, rfl⟩
 obtain ⟨WL, hWL⟩ : ∃ WL, wholeOf word = WL := ⟨_, rfl⟩
 have hwl : WL.length = word.length + 2 := by rw [← hWL]; exact whole_length word
 have hzl : Z.length = word.length + 1 := by rw [← hZ]; exact zeros_length word
 rw [hZ] at HO1c ⊢
 rw [hWL] at HO4 ⊢
 have HZ := Aside0.mk hZ
 have HWL := Aside0.mk hWL
 have HWN := Aside0.mk hwl
 have HZN := Aside0.mk hzl
 have hwn : WL.length ≤ 1099511627778 := by omega
 clear hZ hWL hwl hzl HO1 HO1a HO1b HO2 HO3 HB1 HB2 HB3
 go_loopg [29] WL.length (fun g v29 w' => ∃ k : Nat, v29 = .int .i64 k ∧ Aside0 (g + k = WL.length) ∧ Aside0 (Kd.R (Kd.int .u8) 5 w' w.heap.size (fun _ => True) (.slice (some ⟨go_, 0, none⟩) Z.length cap1) (valuesTo T WL Z k)) ∧ Aside0 (Kd.R (Kd.int .i32) 21 w' w.heap.size (fun _ => True) (.slice A4 WL.length c4) WL) ∧ Aside0 (Below w.heap.size w w'))
 case atStart => exact ⟨0, rfl, ⟨rfl⟩, HO1c, HO4, HB4⟩
 case round =>
  obtain ⟨s, rfl, HG, HO, HW, HB⟩ := hrel
  clear HO1c HO4 HB4
  by_cases hs : s < WL.length
  ·go_wp2_with fail
   obtain ⟨O0, hO0⟩ : ∃ O0, valuesTo T WL Z s = O0 := ⟨_, rfl⟩
   have ho0 : O0.length = Z.length := by rw [← hO0]; exact valuesTo_length _ _ _ _
   rw [hO0] at HO
   have HO0 := Aside0.mk hO0
   have HL0 := Aside0.mk ho0
   clear hO0 ho0
   obtain ⟨X, hX⟩ : ∃ X, T.run s O0 (WL.drop s) 0 = X := ⟨_, rfl⟩
   have HXX := Aside0.mk hX
   go_loopg [8, 9] (WL.length + 1) (fun g v8 v9 w' => ∃ (j i : Nat) (O : List Int), v9 = .int .i64 j ∧ v8 = .int .i64 i ∧ Aside0 (i < T.n ∧ j ≤ WL.length ∧ g + j = WL.length + 1 + s ∧ O.length = Z.length) ∧ Aside0 (T.run s O (WL.drop j) i = X) ∧ Aside0 (Kd.R (Kd.int .u8) 5 w' w.heap.size (fun _ => True) (.slice (some ⟨go_, 0, none⟩) Z.length cap1) O) ∧ Aside0 (Kd.R (Kd.int .i32) 21 w' w.heap.size (fun _ => True) (.slice A4 WL.length c4) WL) ∧ Aside0 (Below w.heap.size w w'))
   case atStart => exact ⟨s, 0, O0, rfl, rfl, ⟨HT.out.ok.pos, by omega, by omega, HL0.out⟩, ⟨hX⟩, HO, HW, HB⟩
   case round =>
    clear HO HW HB hX
    obtain ⟨j, i, O, rfl, rfl, HF, HX, HO, HW, HB⟩ := hrel
    have hi := HF.out.1
    have hj := HF.out.2.1
    have hT := HT.out.below HB.out
    have hcT := hT.cellT
    have hcV := hT.cellV hi
    have q3 : (i : Int) < (T.n : Int) := by omega
    obtain ⟨Av, cv, hvs⟩ := own_slice (hT.vo i)
    rw [hvs] at hcV
    have HVS := Aside0.mk hvs
    clear hvs
    go_wp2_with fail
    clear hcV hcT
    have hvl : (T.vals i).length ≤ 1099511627776 := HV.out i
    go_loopg [44] (T.vals i).length (fun g v44 w' => ∃ q : Nat, v44 = .int .i64 q ∧ Aside0 (g + q = (T.vals i).length) ∧ Aside0 (Kd.R (Kd.int .u8) 5 w' w.heap.size (fun _ => True) (.slice (some ⟨go_, 0, none⟩) Z.length cap1) (bumpTo O (T.vals i) s q)) ∧ Aside0 (Kd.R (Kd.int .i32) 21 w' w.heap.size (fun _ => True) (.slice A4 WL.length c4) WL) ∧ Aside0 (Below w.heap.size w w'))
    case atStart => exact ⟨0, rfl, ⟨rfl⟩, HO, HW, HB⟩
    case round =>
     clear HO HW HB hT
     obtain ⟨q, rfl, HG3, HO, HW, HB⟩ := hrel
     have hT := HT.out.below HB.out
     by_cases hq : q < (T.vals i).length
     ·have p2 : (0 : Int) ≤ (q : Int) := by omega
      have q2 : (q : Int) < ((T.vals i).length : Int) := by omega
      have hvo := hT.vo i
      rw [HVS.out] at hvo
      obtain ⟨A', c', e', hri⟩ := own_reads hvo
      injection e' with e1 e2 e3
      subst e1 e3
      clear e2
      obtain ⟨ad2, e2, hx2⟩ := hri.at_ (q : Int) p2 q2
      subst e2
      simp only [Int.toNat_natCast] at hx2
      obtain ⟨v, hv⟩ : ∃ v, rd (T.vals i) (q : Int) = v := ⟨_, rfl⟩
      rw [hv] at hx2
      have HVv := Aside0.mk hv
      clear hv hvo hri
      have hbl : (bumpTo O (T.vals i) s q).length = Z.length := by rw [bumpTo_length]; exact HF.out.2.2.2
      have HO' := HO.out
      rw [← hbl] at HO'
      by_cases h1 : 1 ≤ s + q
      ·by_cases h2 : s + q - 1 < Z.length
       ·have hg1 := (Kd.R_cell (0 : Int) HO' ((s + q - 1 : Nat) : Int) (by omega) (by omega)).1
        have hg2 := (Kd.R_cell (0 : Int) HO' ((s + q - 1 : Nat) : Int) (by omega) (by omega)).2
        simp only [Int.toNat_natCast] at hg1 hg2
        obtain ⟨x, hx⟩ : ∃ x, rdOf (0 : Int) (bumpTo O (T.vals i) s q) ((s + q - 1 : Nat) : Int) = x := ⟨_, rfl⟩
        rw [hx] at hg1
        have HX1 := Aside0.mk hx
        have HBL := Aside0.mk hbl
        clear hx hbl HO'
        have h3 : (0 : Int) ≤ (s : Int) + (q : Int) - 1 := by omega
        have h4 : (s : Int) + (q : Int) - 1 < (Z.length : Int) := by omega
        go_wp2_with fail
        all_goals
         go_roundg ((T.vals i).length - (q + 1))
         case measure => have := HG3.out; omega
         case rel => exact ⟨q + 1, by go_num, ⟨by have := HG3.out; omega⟩, ⟨bump_round HO.out h1 HBL.out h2 HX1.out HVv.out (by omega)⟩, ⟨whole_put HW.out HO.out _⟩, ⟨below_set HB.out (Kd.R_base HO.out go_ rfl)⟩⟩
       ·have h3 : (0 : Int) ≤ (s : Int) + (q : Int) - 1 := by omega
        have h4 : (Z.length : Int) ≤ (s : Int) + (q : Int) - 1 := by omega
        have HBL := Aside0.mk hbl
        clear hbl HO'
        go_wp2_with fail
        go_roundg ((T.vals i).length - (q + 1))
        case measure => have := HG3.out; omega
        case rel => exact ⟨q + 1, by go_num, ⟨by have := HG3.out; omega⟩, ⟨by rw [bump_miss HBL.out (by omega)]; exact HO.out⟩, HW, HB⟩
      ·have h3 : (s : Int) + (q : Int) - 1 < 0 := by omega
       have HBL := Aside0.mk hbl
       clear hbl HO'
       go_wp2_with fail
       go_roundg ((T.vals i).length - (q + 1))
       case measure => have := HG3.out; omega
       case rel => exact ⟨q + 1, by go_num, ⟨by have := HG3.out; omega⟩, ⟨by rw [bump_miss HBL.out (by omega)]; exact HO.out⟩, HW, HB⟩
     ·have hqe : q = (T.vals i).length := by have := HG3.out; omega
      have HO2 : Aside0 (Kd.R (Kd.int .u8) 5 wr w.heap.size (fun _ => True) (.slice (some ⟨go_, 0, none⟩) Z.length cap1) (bump O (T.vals i) s)) := ⟨by have := HO.out; rw [hqe] at this; exact this⟩
      clear hqe HO
      by_cases hjl : j < WL.length
      ·have hje : ((j : Int) == (WL.length : Int)) = false := by rw [beq_eq_false_iff_ne]; omega
       have hcT := hT.cellT
       have hcM := hT.cellM hi
       have p4 : (0 : Int) ≤ (j : Int) := by omega
       have q4 : (j : Int) < (WL.length : Int) := by omega
       obtain ⟨_, _, hwc⟩ := Kd.R_reads' HW.out
       obtain ⟨ad4, e4, hx4⟩ := Kd.at_int hwc (j : Int) p4 q4
       subst e4
       simp only [Int.toNat_natCast] at hx4
       obtain ⟨r, hr⟩ : ∃ r, rd WL (j : Int) = r := ⟨_, rfl⟩
       rw [hr] at hx4
       have hr32 : In32 r := by
        have hm := rd_mem WL j hjl
        rw [hr, ← HWL.out] at hm
        simp only [wholeOf, List.cons_append, List.mem_cons, List.mem_append, List.not_mem_nil, or_false] at hm
        rcases hm with h | h | h
        ·rw [h]; exact ⟨by decide, by decide⟩
        ·exact H32.out r h
        ·rw [h]; exact ⟨by decide, by decide⟩
       have HRr := Aside0.mk hr
       clear hr hwc
       have hlook : (Instr.lookup 88 (.map (ms i)) (.int .i32 r) true).run Try.prog wr.drew = .ok (.tuple #[.int .i64 (((T.next i r).getD 0 : Nat) : Int), .bool (T.next i r).isSome]) wr.drew := (hT.drew.mo i).look hr32
       cases hn' : T.next i r with
       | none =>
        rw [hn'] at hlook
        simp only [Option.getD_none, Option.isSome_none, Int.natCast_zero] at hlook
        have hx := run_none HX.out hjl HRr.out hn'
        have HX2 := Aside0.mk hx
        clear hx hn'
        go_wp2_with fail
        go_region
        go_wp2_with fail
        go_roundg (WL.length - (s + 1))
        case measure => have := HG.out; omega
        case rel => exact ⟨s + 1, by go_num, ⟨by omega⟩, ⟨by rw [valuesTo_succ, HO0.out, HXX.out, ← HX2.out]; exact Kd.R_drew HO2.out⟩, ⟨Kd.R_drew HW.out⟩, ⟨below_drew HB.out⟩⟩
       | some m =>
        rw [hn'] at hlook
        simp only [Option.getD_some, Option.isSome_some] at hlook
        have hx := run_some HX.out hjl HRr.out hn'
        have HX2 := Aside0.mk hx
        have HM := Aside0.mk (hT.ok.lt _ _ _ hn')
        clear hx hn'
        go_wp2_with fail
        go_region
        go_wp2_with fail
        go_roundg (WL.length + 1 + s - (j + 1))
        case measure => have := HF.out; omega
        case rel => exact ⟨j + 1, m, bump O (T.vals i) s, by go_num, rfl, ⟨HM.out, by omega, by omega, by rw [bump_length]; exact HF.out.2.2.2⟩, HX2, ⟨Kd.R_drew HO2.out⟩, ⟨Kd.R_drew HW.out⟩, ⟨below_drew HB.out⟩⟩
      ·have hje : ((j : Int) == (WL.length : Int)) = true := by rw [beq_iff_eq]; omega
       have hx := run_end HX.out (by omega)
       have HX2 := Aside0.mk hx
       clear hx
       go_wp2_with fail
       go_roundg (WL.length - (s + 1))
       case measure => have := HG.out; omega
       case rel => exact ⟨s + 1, by go_num, ⟨by omega⟩, ⟨by rw [valuesTo_succ, HO0.out, HXX.out, ← HX2.out]; exact HO2.out⟩, HW, HB⟩
  ·have hse : s = word.length + 2 := by have := HG.out; have := HWN.out; omega
   have HF : Aside0 (Kd.R (Kd.int .u8) 5 wr w.heap.size (fun _ => True) (.slice (some ⟨go_, 0, none⟩) Z.length cap1) (values T word)) := ⟨by
    have h := HO.out
    rw [hse, ← HWL.out, ← HZ.out] at h
    rw [HZ.out] at h
    exact HZ.out ▸ h⟩
   clear hse HO
   go_wp2_with fail
   go_ret
   exact ⟨_, rfl, HF.out, HB.out⟩
end Go.Proofs.Ytoefjhdcipgacaa.Tr
end
section
namespace Go.Proofs.Ytoefjhdcipgacaa.Tr
open Go.RowKit Go.Proofs.YtoefjhdcipgacaaW.PrintWords Go.Proofs.YtoefjhdcipgacaaW.PrintLast Go.Proofs.YtoefjhdcipgacaaW.PrintMore
open Go.Proofs.Ytoefjhdcipgacaa.PA
attribute [local go_sem] max2_int min2_int max_two min_two
def midOf (W : List Int) (s n : Nat) : List Int := (W.take (s + n)).drop s
def refFrom (W : List Int) (p : Pat) (out : List Int) (k : Nat) : List Int := (List.range k).foldl (fun o s => if midOf W s p.1.length = p.1 then bump o p.2 s else o) out
def refTo (l : List Pat) (W out : List Int) (k : Nat) : List Int := (l.take k).foldl (fun o p => refFrom W p o (W.length + 1 - p.1.length)) out
def refVals (l : List Pat) (word : List Int) : List Int := refTo l (wholeOf word) (zeros word) l.length
theorem refFrom_zero (W : List Int) (p : Pat) (out : List Int) : refFrom W p out 0 = out := rfl
theorem refFrom_succ (W : List Int) (p : Pat) (out : List Int) (k : Nat) : refFrom W p out (k + 1) = if midOf W k p.1.length = p.1 then bump (refFrom W p out k) p.2 k else refFrom W p out k := by
 unfold refFrom; rw [List.range_succ, List.foldl_append]; rfl
theorem refFrom_length (W : List Int) (p : Pat) (out : List Int) (k : Nat) : (refFrom W p out k).length = out.length := by
 induction k with
 | zero => rfl
 | succ k ih => rw [refFrom_succ]; split <;> simp [bump_length, ih]
theorem refTo_succ (l : List S39) (W out : List Int) (k : Nat) (h : k < l.length) : refTo (l.map pq) W out (k + 1) = refFrom W (pq (rd_T39 l (k : Int))) (refTo (l.map pq) W out k) (W.length + 1 - (rd_T39 l (k : Int)).f0.length) := by
 have hk : k < (l.map pq).length := by simpa using h
 unfold refTo
 rw [List.take_succ_eq_append_getElem hk, List.foldl_append]
 simp [rd_T39, List.getD_eq_getElem?_getD, List.getElem?_eq_getElem h, pq]
theorem refTo_length (l : List Pat) (W out : List Int) (k : Nat) : (refTo l W out k).length = out.length := by
 unfold refTo
 generalize l.take k = l'
 induction l' generalizing out with
 | nil => rfl
 | cons p l' ih => rw [List.foldl_cons, ih, refFrom_length]
theorem bump_round_d {W : World} {base g cap n s q d : Nat} {ok : Nat → Prop} {O V : List Int} (h : Kd.R (Kd.int .u8) 5 W base ok (.slice (some ⟨g, 0, none⟩) n cap) (bumpTo O V s q)) (h1 : 1 ≤ s + q) (hd : s + q - 1 = d) (hl : (bumpTo O V s q).length = n) (h2 : d < n) {x v y : Int}
  (hx : rdOf (0 : Int) (bumpTo O V s q) (d : Int) = x) (hv : rd V (q : Int) = v) (hy : y = max x v) :
  Kd.R (Kd.int .u8) 5 (W.setCell ⟨g, d, none⟩ (.int .u8 y)) base ok (.slice (some ⟨g, 0, none⟩) n cap) (bumpTo O V s (q + 1)) := by
 subst hd
 exact bump_round h h1 hl h2 hx hv hy
theorem bump_same {O V : List Int} {n s q d : Nat} (h1 : 1 ≤ s + q) (hd : s + q - 1 = d) (hl : (bumpTo O V s q).length = n) (h2 : d < n) {x v : Int}
  (hx : rdOf (0 : Int) (bumpTo O V s q) (d : Int) = x) (hv : rd V (q : Int) = v) (hy : v ≤ x) : bumpTo O V s (q + 1) = bumpTo O V s q := by
 subst hd
 rw [bump_hit h1 hl h2 hx hv (y := x) (by omega)]
 apply List.ext_getElem?
 intro i
 rw [List.getElem?_set]
 split
 ·rename_i e
  subst e
  have h3 : s + q - 1 < (bumpTo O V s q).length := by omega
  have h4 : rdOf (0 : Int) (bumpTo O V s q) ((s + q - 1 : Nat) : Int) = (bumpTo O V s q)[s + q - 1] := by
   simp only [rdOf, Int.toNat_natCast]
   rw [List.getD_eq_getElem?_getD, List.getElem?_eq_getElem h3]; rfl
  rw [if_pos h3, List.getElem?_eq_getElem h3, ← hx, h4]
 ·rfl
set_option maxHeartbeats 8000000 in
set_option maxRecDepth 100000 in
theorem refVals_calls (l : List S39) (A0 : Option Addr) (c0 : Nat) (A : Option Addr) (c : Nat) (word : List Int) (w : World) (hl : Kd.C k39 w A0 l.length l) (hlc : l.length ≤ c0) (hr : Kd.C (Kd.int .i32) w A word.length word) (hc : word.length ≤ c) (hn : word.length ≤ 1099511627776)
  (hb0 : ∀ p ∈ l, p.f0.length ≤ 1099511627776) (hb1 : ∀ p ∈ l, p.f1.length ≤ 1099511627776) :
  Calls Try.prog 21 #[.slice A0 l.length c0, .slice A word.length c] w fun e w' => ∃ v, e = .returned v ∧ Kd.R (Kd.int .u8) 5 w' w.heap.size (fun _ => True) v (refVals (l.map pq) word) ∧ Below w.heap.size w w' := by
 have HLr := Aside0.mk hl
 have hmax : l.length ≤ 9223372036854775807 := Kd.C_max hl
 have HLc := Aside0.mk hlc
 have HR := Aside0.mk hr
 have HC := Aside0.mk hc
 have HV0 := Aside0.mk hb0
 have HV1 := Aside0.mk hb1
 clear hl hlc hr hc hb0 hb1
 have HBz := Aside0.mk (Below.refl w.heap.size w)
 go_enter Try.func21, Try.ntmps21
 go_wp2_with (first | ((with_reducible refine gate_dst (N := 12) rfl ?_); (refine Kd.R_lit (Kd.int .i32) (w0 := w) w.heap.size 21 ?hg (N := 12) ?hd (xs := ([46] : List Int)) (inner := [.int .i32 46]) (ok := fun _ => True) (okp := fun _ => True) ?hr ?hp (fun _ hk => hk) trivial HBz.out (below_size HBz.out) (by simp) ?_; (case hd => rfl); (case hg => rfl); (case hr => first | (go_simp; done) | (go_simp; rfl)); (case hp => exact (Reps.one (show Kd.M (Kd.int .i32) _ _ _ 46 [.int .i32 46] from rfl) (Reps.none _ _))); intro v2 w2 ho2 hb2 hg2 hn2; clear hn2 hg2; have HO2 := Aside0.mk ho2; have HB2 := Aside0.mk hb2; clear ho2 hb2)) | ((with_reducible refine gate_builtin (b := .append) (xs := #[.tmp 12, .tmp 13]) rfl ?_); at_builtin; (refine Kd.R_append_rows (Kd.int .i32) (w0 := w) w.heap.size rfl (.tmp 12) (.tmp 13) 23 21 (.int .i32 0) 4 rfl Try.underlying23 info21 rfl (by decide) (by omega) v2 [46] word _ _ _ (fun _ => True) (fun _ => False) rfl rfl HO2.out (Kd.C_below HR.out HB2.out) (fun _ _ h => h) (fun _ h => h.elim) (fun _ _ => trivial) HB2.out (below_size HB2.out) (by simp; omega) ?_; intro v3 w3 ho3 hb3 hg3 hat3; clear hat3 hg3; have HO3 := Aside0.mk ho3; have HB3 := Aside0.mk hb3; clear ho3 hb3)) | ((with_reducible refine gate_builtin (b := .append) (xs := #[.tmp 14, .tmp 15]) rfl ?_); at_builtin; (refine Kd.R_append (Kd.int .i32) (w0 := w) w.heap.size rfl (.tmp 14) (.tmp 15) 23 21 (.int .i32 0) 4 rfl Try.underlying23 info21 rfl (by decide) (by omega) v3 ([46] ++ word) 46 [.int .i32 46] (fun _ => True) (fun _ => False) rfl rfl rfl (fun _ hk => hk.elim) (fun _ _ => trivial) HO3.out HB3.out (below_size HB3.out) (by simp; omega) ?_; intro v4 w4 ho4 hb4 hg4 hat4; clear hat4 hg4; rw [whole_eq] at ho4; obtain ⟨A4, c4, hv4⟩ := Kd.R_slice ho4; rw [hv4] at ho4 ⊢; have HO4 := Aside0.mk ho4; have HB4 := Aside0.mk hb4; clear ho4 hb4 hv4)) | (at_make; (refine Kd.R_make (Kd.int .u8) (w0 := w) w.heap.size 5 rfl (N := 20) rfl 27 (.tmp 19) (.tmp 19) rfl ((word.length : Int) + 1) rfl rfl Try.underlying27 (.int .u8 0) 1 info5 rfl (by decide) (by decide) (0 : Int) (ok := fun _ => True) (okp := fun _ => False) rfl (fun _ h => h.elim) trivial (by omega) (by omega) HB4.out (below_size HB4.out) ?_; intro v1 w1 ho1 hb1 hg1 hn1; clear hn1; rw [zeros_eq] at ho1; obtain ⟨go_, cap1, hv1, _, _, _⟩ := Kd.R_form ho1 (zeros_pos word); rw [hv1] at ho1 ⊢; have HO1 := Aside0.mk ho1; have HB1 := Aside0.mk hb1; have HO5 := Aside0.mk (Kd.R_grown HO4.out hg1 (fun _ _ => by simp)); clear ho1 hb1 hv1 hg1)))
 obtain ⟨Z, hZ⟩ : ∃ Z, zeros word = Z := ⟨_, rfl⟩
 obtain ⟨WL, hWL⟩ : ∃ WL, wholeOf word = WL := ⟨_, rfl⟩
 have hwl : WL.length = word.length + 2 := by rw [← hWL]; exact whole_length word
 have hzl : Z.length = word.length + 1 := by rw [← hZ]; exact zeros_length word
 rw [hZ] at HO1 ⊢
 rw [hWL] at HO5 ⊢
 have HZ := Aside0.mk hZ
 have HWL := Aside0.mk hWL
 have HWN := Aside0.mk hwl
 have HZN := Aside0.mk hzl
 have hwn : WL.length ≤ 1099511627778 := by omega
 clear hZ hWL hwl hzl HO2 HO3 HO4 HB2 HB3 HB4 HBz
 go_loopg [7] l.length (fun g v7 w' => ∃ i : Nat, v7 = .int .i64 i ∧ Aside0 (g + i = l.length) ∧ Aside0 (Kd.R (Kd.int .u8) 5 w' w.heap.size (fun _ => True) (.slice (some ⟨go_, 0, none⟩) Z.length cap1) (refTo (l.map pq) WL Z i)) ∧ Aside0 (Kd.R (Kd.int .i32) 21 w' w.heap.size (fun _ => True) (.slice A4 WL.length c4) WL) ∧ Aside0 (Below w.heap.size w w'))
 case atStart => exact ⟨0, rfl, ⟨rfl⟩, HO1, HO5, HB1⟩
 case round =>
  clear HO1 HO5 HB1
  obtain ⟨i, rfl, HG, HO, HW, HB⟩ := hrel
  by_cases hi : i < l.length
  ·have p1 : (0 : Int) ≤ (i : Int) := by omega
   have q1 : (i : Int) < (l.length : Int) := by omega
   obtain ⟨ad, Ap, cp, Aq, cq, e1, hx0, hx1, hl0, hi0, hl1, hi1⟩ := at_T39 HLr.out (i : Int) p1 q1
   subst e1
   obtain ⟨p, hp⟩ : ∃ p, rd_T39 l (i : Int) = p := ⟨_, rfl⟩
   simp only [Int.toNat_natCast] at hx0 hx1
   rw [hp] at hx0 hx1 hl0 hi0 hl1 hi1
   have hpm : p ∈ l := hp ▸ rd_T39_mem l i hi
   have hn0 : p.f0.length ≤ 1099511627776 := HV0.out p hpm
   have hn1 : p.f1.length ≤ 1099511627776 := HV1.out p hpm
   have HP := Aside0.mk hp
   have HX0 := Aside0.mk hx0
   have HX1 := Aside0.mk hx1
   have HR0 := Aside0.mk hi0
   have HC0 := Aside0.mk hl0
   have HR1 := Aside0.mk hi1
   have HC1 := Aside0.mk hl1
   clear hi0 hl0 hi1 hl1 hp hpm hx0 hx1
   have hx0 := (HB.out.cell (World.block_lt_of_cell? w _ HX0.out)).trans HX0.out
   go_wp2_with fail
   obtain ⟨O, hO⟩ : ∃ O, refTo (l.map pq) WL Z i = O := ⟨_, rfl⟩
   have hol : O.length = Z.length := by rw [← hO]; exact refTo_length _ _ _ _
   rw [hO] at HO
   have HOO := Aside0.mk hO
   have HOL := Aside0.mk hol
   clear hO hol hx0
   obtain ⟨M, hM⟩ : ∃ M, WL.length + 1 - p.f0.length = M := ⟨_, rfl⟩
   have HM := Aside0.mk hM
   clear hM
   go_loopg [9] M (fun g v9 w' => ∃ s : Nat, v9 = .int .i64 s ∧ Aside0 (g + s = M) ∧ Aside0 (Kd.R (Kd.int .u8) 5 w' w.heap.size (fun _ => True) (.slice (some ⟨go_, 0, none⟩) Z.length cap1) (refFrom WL (pq p) O s)) ∧ Aside0 (Kd.R (Kd.int .i32) 21 w' w.heap.size (fun _ => True) (.slice A4 WL.length c4) WL) ∧ Aside0 (Below w.heap.size w w'))
   case atStart => exact ⟨0, rfl, ⟨rfl⟩, HO, HW, HB⟩
   case round =>
    clear HO HW HB
    obtain ⟨s, rfl, HG2, HO, HW, HB⟩ := hrel
    have hx0 := (HB.out.cell (World.block_lt_of_cell? w _ HX0.out)).trans HX0.out
    have hsM : s ≤ M := by have := HG2.out; omega
    have hsW : s ≤ 1099511627779 := by have := HM.out; omega
    by_cases hs : s < M
    ·have hsl : (s : Int) + (p.f0.length : Int) ≤ (WL.length : Int) := by have := HM.out; omega
     obtain ⟨i0, hi0', _, hsz0, _⟩ := info_parts info21
     obtain ⟨_, hwc4, hwC⟩ := Kd.R_reads' HW.out
     obtain ⟨Am, hcut, hAm, hCm⟩ := print_mid_of (P := Try.prog) (Value.int .i32) (0 : Int) 23 21 .i64 .i64 Try.underlying23 hi0' hsz0 A4 c4 WL (s : Int) ((s : Int) + (p.f0.length : Int)) (by omega) (by omega) hsl hwc4
     have hmid : (WL.take ((s : Int) + (p.f0.length : Int)).toNat).drop (s : Int).toNat = midOf WL s p.f0.length := by
      unfold midOf
      congr 2
     rw [hmid] at hcut hAm hCm
     obtain ⟨L, hL⟩ : ∃ L, midOf WL s p.f0.length = L := ⟨_, rfl⟩
     rw [hL] at hcut hAm hCm
     have HRm := Aside0.mk (Kd.C_of_reads (h1 := fun _ => rfl) (hAm _ (Kd.reads_of_C hwC)))
     have HCm := Aside0.mk hCm
     have HLm := Aside0.mk hL
     have HRp := Aside0.mk (Kd.C_below HR0.out HB.out)
     clear hi0' hsz0 hAm hCm hmid hL hwC hwc4
     obtain ⟨bq, hbq⟩ : ∃ bq, decide (L = p.f0) = bq := ⟨_, rfl⟩
     have HBq := Aside0.mk hbq
     clear hbq
     cases bq with
     | false =>
      go_wp2_with fail
      go_quiet ((go_at_call 38; refine Calls.mono (Lf.same_calls _ _ L _ _ p.f0 _ (by repeat (first | exact HRm.out | (with_reducible refine Kd.C_drewN ?_ _) | (with_reducible refine Kd.C_drew ?_))) HCm.out (by repeat (first | exact HRp.out | (with_reducible refine Kd.C_drewN ?_ _) | (with_reducible refine Kd.C_drew ?_))) HC0.out) ?_; rw [HBq.out]; rintro e w' ⟨rfl, ⟨nd, rfl⟩⟩; (try first | exact ⟨rfl, _, World.drewN_drewN _ _ _⟩ | exact ⟨rfl, _, Eq.trans (World.drewN_drewN _ _ _) (congrArg (World.drewN _) (Nat.add_assoc _ _ _))⟩)))
      go_wp2_with fail
      have hne : refFrom WL (pq p) O (s + 1) = refFrom WL (pq p) O s := by
       rw [refFrom_succ, if_neg]
       intro h
       have : L = p.f0 := HLm.out.symm.trans h
       have h2 := HBq.out
       rw [decide_eq_false_iff_not] at h2
       exact h2 this
      go_roundg (M - (s + 1))
      case measure => have := HG2.out; omega
      case rel => exact ⟨s + 1, by go_num, ⟨by omega⟩, ⟨by rw [hne]; exact Kd.R_drewN HO.out _⟩, ⟨Kd.R_drewN HW.out _⟩, ⟨pw_below_drewN HB.out _⟩⟩
     | true =>
      go_wp2_with fail
      go_quiet ((go_at_call 38; refine Calls.mono (Lf.same_calls _ _ L _ _ p.f0 _ (by repeat (first | exact HRm.out | (with_reducible refine Kd.C_drewN ?_ _) | (with_reducible refine Kd.C_drew ?_))) HCm.out (by repeat (first | exact HRp.out | (with_reducible refine Kd.C_drewN ?_ _) | (with_reducible refine Kd.C_drew ?_))) HC0.out) ?_; rw [HBq.out]; rintro e w' ⟨rfl, ⟨nd, rfl⟩⟩; (try first | exact ⟨rfl, _, World.drewN_drewN _ _ _⟩ | exact ⟨rfl, _, Eq.trans (World.drewN_drewN _ _ _) (congrArg (World.drewN _) (Nat.add_assoc _ _ _))⟩)))
      go_wp2_with fail
      have hyes : refFrom WL (pq p) O (s + 1) = bump (refFrom WL (pq p) O s) p.f1 s := by
       rw [refFrom_succ, if_pos]
       ·rfl
       ·exact HLm.out.trans (of_decide_eq_true HBq.out)
      have HY := Aside0.mk hyes
      obtain ⟨O2, hO2⟩ : ∃ O2, refFrom WL (pq p) O s = O2 := ⟨_, rfl⟩
      have ho2 : O2.length = Z.length := by rw [← hO2, refFrom_length]; exact HOL.out
      rw [hO2] at HO HY
      have HL2 := Aside0.mk ho2
      clear hO2 ho2 hyes hcut hx0
      go_loopg [10] p.f1.length (fun g v10 w' => ∃ q : Nat, v10 = .int .i64 q ∧ Aside0 (g + q = p.f1.length) ∧ Aside0 (Kd.R (Kd.int .u8) 5 w' w.heap.size (fun _ => True) (.slice (some ⟨go_, 0, none⟩) Z.length cap1) (bumpTo O2 p.f1 s q)) ∧ Aside0 (Kd.R (Kd.int .i32) 21 w' w.heap.size (fun _ => True) (.slice A4 WL.length c4) WL) ∧ Aside0 (Below w.heap.size w w'))
      case atStart => exact ⟨0, rfl, ⟨rfl⟩, ⟨Kd.R_drewN HO.out _⟩, ⟨Kd.R_drewN HW.out _⟩, ⟨pw_below_drewN HB.out _⟩⟩
      case round =>
       clear HO HW HB
       obtain ⟨q, rfl, HG3, HO, HW, HB⟩ := hrel
       have hx1 := (HB.out.cell (World.block_lt_of_cell? w _ HX1.out)).trans HX1.out
       by_cases hq : q < p.f1.length
       ·have p2 : (0 : Int) ≤ (q : Int) := by omega
        have q2 : (q : Int) < (p.f1.length : Int) := by omega
        obtain ⟨ad2, e2, hx2⟩ := Kd.at_int HR1.out (q : Int) p2 q2
        subst e2
        simp only [Int.toNat_natCast] at hx2
        have hx3 : wr.cell? (ad2.add q) = some (.int .u8 (rd p.f1 (q : Int))) := (HB.out.cell (World.block_lt_of_cell? w _ hx2)).trans hx2
        obtain ⟨v, hv⟩ : ∃ v, rd p.f1 (q : Int) = v := ⟨_, rfl⟩
        rw [hv] at hx3
        have HVv := Aside0.mk hv
        clear hv hx2
        have hbl : (bumpTo O2 p.f1 s q).length = Z.length := by rw [bumpTo_length]; exact HL2.out
        have HBL := Aside0.mk hbl
        have HO' := HO.out
        rw [← hbl] at HO'
        clear hbl
        by_cases h1 : 1 ≤ s + q
        ·obtain ⟨d, hd⟩ : ∃ d : Nat, s + q - 1 = d := ⟨_, rfl⟩
         have hdi : (s : Int) + (q : Int) - 1 = (d : Int) := by omega
         go_wp2_with fail
         have HD := Aside0.mk hd
         clear hd hdi
         have h6 : (0 : Int) ≤ (d : Int) := by omega
         have h3 : decide ((0 : Int) ≤ (d : Int)) = true := by simp
         by_cases h2 : d < Z.length
         ·have hg1 := (Kd.R_cell (0 : Int) HO' (d : Int) (by omega) (by have := HBL.out; omega)).1
          have hg2 := (Kd.R_cell (0 : Int) HO' (d : Int) (by omega) (by have := HBL.out; omega)).2
          simp only [Int.toNat_natCast] at hg1 hg2
          obtain ⟨x, hx⟩ : ∃ x, rdOf (0 : Int) (bumpTo O2 p.f1 s q) (d : Int) = x := ⟨_, rfl⟩
          rw [hx] at hg1
          have HXx := Aside0.mk hx
          clear hx HO'
          have h4 : decide (d < Z.length) = true := by simpa using h2
          have h5 : (d : Int) < (Z.length : Int) := by omega
          by_cases h7 : x < v
          ·have h8 : decide (x < v) = true := by simpa using h7
           go_quiet (fail)
           go_wp2_with fail
           go_roundg (p.f1.length - (q + 1))
           case measure => have := HG3.out; omega
           case rel => exact ⟨q + 1, by go_num, ⟨by have := HG3.out; omega⟩, ⟨by first | exact Kd.R_drewN (bump_round_d HO.out h1 HD.out HBL.out h2 HXx.out HVv.out (by omega)) _ | exact bump_round_d (Kd.R_drewN HO.out _) h1 HD.out HBL.out h2 HXx.out HVv.out (by omega)⟩, ⟨by first | exact Kd.R_drewN (whole_put HW.out HO.out _) _ | exact whole_put (Kd.R_drewN HW.out _) (Kd.R_drewN HO.out _) _⟩, ⟨by first | exact pw_below_drewN (below_set HB.out (Kd.R_base HO.out go_ rfl)) _ | exact below_set (pw_below_drewN HB.out _) (Kd.R_base HO.out go_ rfl)⟩⟩
          ·have h8 : decide (x < v) = false := by simpa using h7
           go_quiet (fail)
           go_wp2_with fail
           go_roundg (p.f1.length - (q + 1))
           case measure => have := HG3.out; omega
           case rel => exact ⟨q + 1, by go_num, ⟨by have := HG3.out; omega⟩, ⟨by rw [bump_same h1 HD.out HBL.out h2 HXx.out HVv.out (by omega)]; exact Kd.R_drewN HO.out _⟩, ⟨Kd.R_drewN HW.out _⟩, ⟨pw_below_drewN HB.out _⟩⟩
         ·have h4 : decide (d < Z.length) = false := by simpa using h2
          go_quiet (fail)
          go_wp2_with fail
          go_roundg (p.f1.length - (q + 1))
          case measure => have := HG3.out; omega
          case rel => exact ⟨q + 1, by go_num, ⟨by have := HG3.out; omega⟩, ⟨by rw [bump_miss HBL.out (by have := HD.out; omega)]; exact Kd.R_drewN HO.out _⟩, ⟨Kd.R_drewN HW.out _⟩, ⟨pw_below_drewN HB.out _⟩⟩
        ·have hdi : (s : Int) + (q : Int) - 1 = -1 := by omega
         clear HO'
         go_wp2_with fail
         go_quiet (fail)
         go_wp2_with fail
         go_roundg (p.f1.length - (q + 1))
         case measure => have := HG3.out; omega
         case rel => exact ⟨q + 1, by go_num, ⟨by have := HG3.out; omega⟩, ⟨by rw [bump_miss HBL.out (by omega)]; exact Kd.R_drewN HO.out _⟩, ⟨Kd.R_drewN HW.out _⟩, ⟨pw_below_drewN HB.out _⟩⟩
       ·have hqe : q = p.f1.length := by have := HG3.out; omega
        have HO3 : Aside0 (Kd.R (Kd.int .u8) 5 wr w.heap.size (fun _ => True) (.slice (some ⟨go_, 0, none⟩) Z.length cap1) (refFrom WL (pq p) O (s + 1))) := ⟨by rw [HY.out]; have := HO.out; rw [hqe] at this; exact this⟩
        clear hqe HO
        go_wp2_with fail
        go_roundg (M - (s + 1))
        case measure => have := HG2.out; omega
        case rel => exact ⟨s + 1, by go_num, ⟨by omega⟩, HO3, HW, HB⟩
    ·have hsl : (WL.length : Int) < (s : Int) + (p.f0.length : Int) := by have := HM.out; omega
     have hse : s = M := by omega
     have HO3 : Aside0 (Kd.R (Kd.int .u8) 5 wr w.heap.size (fun _ => True) (.slice (some ⟨go_, 0, none⟩) Z.length cap1) (refTo (l.map pq) WL Z (i + 1))) := ⟨by
      rw [refTo_succ l WL Z i hi, HP.out, HOO.out, HM.out, ← hse]; exact HO.out⟩
     clear hse HO
     go_wp2_with fail
     go_roundg (l.length - (i + 1))
     case measure => have := HG.out; omega
     case rel => exact ⟨i + 1, by go_num, ⟨by omega⟩, HO3, HW, HB⟩
  ·have hie : i = l.length := by have := HG.out; omega
   have HF : Aside0 (Kd.R (Kd.int .u8) 5 wr w.heap.size (fun _ => True) (.slice (some ⟨go_, 0, none⟩) Z.length cap1) (refVals (l.map pq) word)) := ⟨by
    have h := HO.out
    unfold refVals
    rw [HWL.out, HZ.out, List.length_map, ← hie]
    exact h⟩
   clear hie HO
   go_wp2_with fail
   go_ret
   exact ⟨_, rfl, HF.out, HB.out⟩
end Go.Proofs.Ytoefjhdcipgacaa.Tr
end
section
namespace Go.Proofs.Ytoefjhdcipgacaa.Tr
theorem midOf_iff (W : List Int) (s : Nat) (p : List Int) : midOf W s p.length = p ↔ p <+: W.drop s := by
 unfold midOf
 rw [List.drop_take, show s + p.length - s = p.length by omega, List.prefix_iff_eq_take]
 exact eq_comm
def St (l : List Pat) (W out : List Int) (H : Nat → Pat → Prop) : Prop :=
 ∀ j, j < out.length → 0 ≤ out.getD j 0 ∧ (∀ s p, H s p → p.1 <+: W.drop s → s ≤ j + 1 → p.2.getD (j + 1 - s) 0 ≤ out.getD j 0) ∧
  (out.getD j 0 = 0 ∨ ∃ s p, p ∈ l ∧ p.1 <+: W.drop s ∧ s ≤ j + 1 ∧ p.2.getD (j + 1 - s) 0 = out.getD j 0)
theorem St.bump {l : List Pat} {W out : List Int} {H : Nat → Pat → Prop} (h : St l W out H) {p : Pat} (hp : p ∈ l) {s : Nat} (hs : p.1 <+: W.drop s) : St l W (bump out p.2 s) (fun s' p' => H s' p' ∨ (s' = s ∧ p' = p)) := by
 intro j hj
 rw [bump_length] at hj
 obtain ⟨h1, h2, h3⟩ := h j hj
 rw [getD_bump _ _ _ _ h1 hj]
 by_cases hsj : s ≤ j + 1
 ·rw [if_pos hsj]
  refine ⟨by omega, ?_, ?_⟩
  ·rintro s' p' (hH | ⟨rfl, rfl⟩) hw hs'
   ·have := h2 s' p' hH hw hs'; omega
   ·exact Int.le_max_right _ _
  ·rcases Int.le_total (p.2.getD (j + 1 - s) 0) (out.getD j 0) with hle | hle
   ·rw [Int.max_eq_left hle]; exact h3
   ·rw [Int.max_eq_right hle]; exact .inr ⟨s, p, hp, hs, hsj, rfl⟩
 ·rw [if_neg hsj]
  refine ⟨h1, ?_, h3⟩
  rintro s' p' (hH | ⟨rfl, rfl⟩) hw hs'
  ·exact h2 s' p' hH hw hs'
  ·exact absurd hs' hsj
theorem St.imp {l : List Pat} {W out : List Int} {H H' : Nat → Pat → Prop} (h : St l W out H) (hH : ∀ s p, H' s p → p.1 <+: W.drop s → H s p) : St l W out H' := by
 intro j hj
 obtain ⟨h1, h2, h3⟩ := h j hj
 exact ⟨h1, fun s p hp hw hs => h2 s p (hH s p hp hw) hw hs, h3⟩
theorem St.from_ {l : List Pat} {W out : List Int} {H : Nat → Pat → Prop} (h : St l W out H) {p : Pat} (hp : p ∈ l) (k : Nat) : St l W (refFrom W p out k) (fun s' p' => H s' p' ∨ (s' < k ∧ p' = p)) := by
 induction k with
 | zero =>
  rw [refFrom_zero]
  refine h.imp ?_
  rintro s p (hs | ⟨hs, _⟩) _
  ·exact hs
  ·exact absurd hs (Nat.not_lt_zero _)
 | succ k ih =>
  rw [refFrom_succ]
  by_cases hm : midOf W k p.1.length = p.1
  ·rw [if_pos hm]
   refine (ih.bump hp ((midOf_iff W k p.1).1 hm)).imp ?_
   rintro s' p' (hs | ⟨hs, rfl⟩) _
   ·exact .inl (.inl hs)
   ·rcases Nat.lt_or_ge s' k with hlt | hge
    ·exact .inl (.inr ⟨hlt, rfl⟩)
    ·exact .inr ⟨by omega, rfl⟩
  ·rw [if_neg hm]
   refine ih.imp ?_
   rintro s' p' (hs | ⟨hs, rfl⟩) hw
   ·exact .inl hs
   ·rcases Nat.lt_or_ge s' k with hlt | hge
    ·exact .inr ⟨hlt, rfl⟩
    ·have : s' = k := by omega
     subst this
     exact absurd ((midOf_iff W s' p'.1).2 hw) hm
theorem St.all {l : List Pat} {W : List Int} (l' : List Pat) : ∀ {out : List Int} {H : Nat → Pat → Prop}, St l W out H → (∀ p ∈ l', p ∈ l) →
  St l W (l'.foldl (fun o p => refFrom W p o (W.length + 1 - p.1.length)) out) (fun s p => H s p ∨ (p ∈ l' ∧ s + p.1.length ≤ W.length)) := by
 induction l' with
 | nil =>
  intro out H h _
  refine h.imp ?_
  rintro s p (hs | ⟨hs, _⟩) _
  ·exact hs
  ·exact absurd hs (List.not_mem_nil)
 | cons p l' ih =>
  intro out H h hsub
  refine (ih (h.from_ (hsub p (List.mem_cons_self ..)) (W.length + 1 - p.1.length)) (fun q hq => hsub q (List.mem_cons_of_mem _ hq))).imp ?_
  rintro s q (hs | ⟨hq, hs⟩) _
  ·exact .inl (.inl hs)
  ·rcases List.mem_cons.1 hq with rfl | hq
   ·exact .inl (.inr ⟨by omega, rfl⟩)
   ·exact .inr ⟨hq, hs⟩
theorem refVals_length (l : List Pat) (word : List Int) : (refVals l word).length = word.length + 1 := by
 unfold refVals; rw [refTo_length, zeros_length]
theorem refVals_best (l : List Pat) (word : List Int) : Best l (46 :: word ++ [46]) (refVals l word) := by
 have h0 : St l (wholeOf word) (zeros word) (fun _ _ => False) := by
  intro j _
  have : (zeros word).getD j 0 = 0 := zeros_getD _ _
  rw [this]
  exact ⟨Int.le_refl _, fun s p h => h.elim, .inl rfl⟩
 have h1 := h0.all l (fun p hp => hp)
 have h2 : refVals l word = l.foldl (fun o p => refFrom (wholeOf word) p o ((wholeOf word).length + 1 - p.1.length)) (zeros word) := by
  unfold refVals refTo; rw [List.take_length]
 rw [← h2] at h1
 intro j hj
 obtain ⟨k1, k2, k3⟩ := h1 j hj
 refine ⟨k1, fun s p hp hw hs => k2 s p (.inr ⟨hp, ?_⟩) hw hs, k3⟩
 rw [refVals_length] at hj
 have h4 := hw.length_le
 rw [List.length_drop] at h4
 have h5 : (46 :: word ++ [46] : List Int).length = word.length + 2 := by simp
 rw [whole_length]
 omega
theorem values_ref (l : List Pat) (hv : ∀ p ∈ l, NN p.2) (word : List Int) : values (make l) word = refVals l word :=
 (values_best l hv word).unique (refVals_best l word) (fun _ => Iff.rfl) (by rw [values_length, refVals_length])
end Go.Proofs.Ytoefjhdcipgacaa.Tr
end
section
namespace Go.Proofs.Ytoefjhdcipgacaa.PA
open Go.RowKit Go.Proofs.YtoefjhdcipgacaaW.PrintWords Go.Proofs.YtoefjhdcipgacaaW.PrintLast Go.Proofs.YtoefjhdcipgacaaW.PrintMore
open Go.Proofs.Ytoefjhdcipgacaa.Tr (refVals pq refVals_calls)
def fitsB (l : List S39) (word : List Int) : Bool := decide (word.length ≤ 1099511627776) && l.all (fun p => decide (p.f0.length ≤ 1099511627776) && decide (p.f1.length ≤ 1099511627776))
def stanzaref07_Values.f (_k : Nat) (l0 : List (S39)) (l1 : List Int) : Option (List Int) := if fitsB l0 l1 = true then some (refVals (l0.map pq) l1) else none
theorem stanzaref07_Values.calls (k : Nat) (A0 : Option Addr) (c0 : Nat) (l0 : List (S39)) (A1 : Option Addr) (c1 : Nat) (l1 : List Int) (r : List Int) (w : World) (hr0 : Kd.C k39 w A0 l0.length l0) (hc0 : l0.length ≤ c0) (hr1 : Kd.C (Kd.int .i32) w A1 l1.length l1) (hc1 : l1.length ≤ c1) (h : stanzaref07_Values.f k l0 l1 = some r) :
  Calls Try.prog 21 #[.slice A0 l0.length c0, .slice A1 l1.length c1] w fun e w' => ∃ v0_ : Value, e = .returned (v0_) ∧ Kd.R (Kd.int .u8) 5 w' w.heap.size (fun _ => True) v0_ r ∧ Below w.heap.size w w' := by
 unfold stanzaref07_Values.f at h
 by_cases hf : fitsB l0 l1 = true
 ·rw [if_pos hf] at h
  injection h with h
  subst h
  rw [fitsB, Bool.and_eq_true, decide_eq_true_eq, List.all_eq_true] at hf
  exact refVals_calls l0 A0 c0 A1 c1 l1 w hr0 hc0 hr1 hc1 hf.1 (fun p hp => by have := hf.2 p hp; rw [Bool.and_eq_true, decide_eq_true_eq] at this; exact this.1) (fun p hp => by have := hf.2 p hp; rw [Bool.and_eq_true, decide_eq_true_eq, decide_eq_true_eq] at this; exact this.2)
 ·rw [if_neg hf] at h
  cases h
end Go.Proofs.Ytoefjhdcipgacaa.PA
end
