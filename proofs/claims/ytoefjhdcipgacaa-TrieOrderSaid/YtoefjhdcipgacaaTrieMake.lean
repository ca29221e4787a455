/-
  trie.Make builds, in memory, the trie that the plain model builds, where there are not too many letters.
-/
import Derived.Test.YtoefjhdcipgacaaTrieMem
import Derived.WalkSpells
import Derived.RegionTactic
import Derived.BigRegion
namespace Go.Proofs.Ytoefjhdcipgacaa.Tr
open Go.RowKit Go.Proofs.YtoefjhdcipgacaaW.PrintWords Go.Proofs.YtoefjhdcipgacaaW.PrintLast Go.Proofs.YtoefjhdcipgacaaW.PrintMore
open Go.Proofs.Ytoefjhdcipgacaa.PA
open Go.Maps (Keyed int_keyed)
attribute [local go_sem] max2_int min2_int max_two min_two

theorem mk84 (w : World) : (Instr.makeSlice 84 (.int .i64 1) (.int .i64 1)).run Try.prog w = .ok (.slice (some ⟨w.heap.size, 0, none⟩) 1 1) (w.alloc (.cells #[.map none, .slice none 0 0] 90)) := by kernel_rfl

def pq (p : S39) : List Int × List Int := (p.f0, p.f1)
def TrieAt (w : World) (base bt : Nat) (T : TM) : Prop := ∃ bn cap K xs ms vs, K ≤ T.n ∧ TrieM w base bt bn cap K xs ms vs T


theorem TrieM.start (w : World) : TrieM ((w.alloc (.cells #[.map none, .slice none 0 0] 90)).alloc (.cells #[.slice (some ⟨w.heap.size, 0, none⟩) 1 1] 86)) w.heap.size (w.heap.size + 1) w.heap.size 1 0 [.map none, .slice none 0 0] (fun _ => none) (fun _ => .slice none 0 0) TM.init := by
  have hs : (w.alloc (.cells #[.map none, .slice none 0 0] 90)).heap.size = w.heap.size + 1 := by simp
  refine ⟨TM.Ok.init, by omega, ?_, ?_, ?_, ?_, fun i b h => by simp at h, fun _ _ => rfl, fun _ _ => rfl, fun i r _ => rfl, fun i => own_nil _ _ _ _, fun i j b h => by simp at h, fun i j _ => ne_nil _⟩
  · have := blk_new (w.alloc (.cells #[.map none, .slice none 0 0] 90)) (.cells #[.slice (some ⟨w.heap.size, 0, none⟩) 1 1] 86)
    rw [hs] at this
    exact this
  · exact (World.ownsRow_lit (base := w.heap.size) (e := 90) (size := 2) w #[.map none, .slice none 0 0] 1 (Nat.le_refl _) (by simp [maxLen]) rfl).alloc _
  · intro i hi
    have : i = 0 := by simp only [TM.init] at hi; omega
    subst this
    rfl
  · intro i hi
    have : i = 0 := by simp only [TM.init] at hi; omega
    subst this
    rfl

theorem make_take_succ (l : List S39) (k : Nat) (h : k < l.length) : make ((l.map pq).take (k + 1)) = (make ((l.map pq).take k)).insert (pq (rd_T39 l k)) := by
  have hk : k < (l.map pq).length := by simpa using h
  rw [List.take_succ_eq_append_getElem hk]
  unfold make
  rw [List.foldl_append]
  simp [rd_T39, List.getD_eq_getElem?_getD, List.getElem?_eq_getElem h]
theorem walk_take_succ (T : TM) (ls : List Int) (k : Nat) (h : k < ls.length) : (T.walk (ls.take (k + 1))) = TM.step (T.walk (ls.take k)) (ls.getD k 0) := by
  rw [List.take_succ_eq_append_getElem h]
  unfold TM.walk
  rw [List.foldl_append]
  simp [List.getD_eq_getElem?_getD, List.getElem?_eq_getElem h]

theorem node0_one : ∀ u ∈ [Value.map none, Value.slice none 0 0], u.oneCell' = true := by
  intro u hu
  simp at hu
  rcases hu with rfl | rfl <;> rfl
theorem at_block {g g' n n' c c' N : Nat} (h : (Value.slice (some ⟨g, 0, none⟩) n c).ownBlock = (Value.slice (some ⟨g', 0, none⟩) n' c').ownBlock ∨ ∃ b, (Value.slice (some ⟨g, 0, none⟩) n c).ownBlock = some b ∧ N ≤ b) : g = g' ∨ N ≤ g := by
  rcases h with h | ⟨b, h, hb⟩
  · exact .inl (by simpa [Value.ownBlock] using h)
  · have : g = b := by simpa [Value.ownBlock] using h
    exact .inr (by omega)
theorem below_map {w w1 w2 : World} {bt bn cap K : Nat} {xs : List Value} {ms : Nat → Option Nat} {vs : Nat → Value} {T : TM} (h : TrieM w1 w.heap.size bt bn cap K xs ms vs T) {i b : Nat} (hm : ms i = some b) (hb : Below w.heap.size w w1) (hg : w1.grownBy w2 (some b)) : Below w.heap.size w w2 :=
  hb.grown hg hb.size (fun k hk => by injection hk with hk; exact hk ▸ h.mb i _ hm)
theorem top_map {w w1 w2 : World} {bt bn cap K : Nat} {xs : List Value} {ms : Nat → Option Nat} {vs : Nat → Value} {T : TM} (h : TrieM w1 w.heap.size bt bn cap K xs ms vs T) {i b : Nat} (hm : ms i = some b) (hg : w1.grownBy w2 (some b)) : w2.cell? ⟨bt, 0, none⟩ = some (.slice (some ⟨bn, 0, none⟩) T.n cap) :=
  hg.cell h.cellT (by intro e; injection e with e; exact h.m_cells hm h.top e.symm)
theorem letters_append (l l' : List (List Int × List Int)) : letters (l ++ l') = letters l + letters l' := by simp [letters]
theorem letters_take (l : List S39) (k : Nat) (h : k < l.length) : letters ((l.map pq).take k) + (rd_T39 l k).f0.length ≤ letters (l.map pq) := by
  have hk : k < (l.map pq).length := by simpa using h
  have h1 : l.map pq = (l.map pq).take k ++ ((l.map pq)[k] :: (l.map pq).drop (k + 1)) := by rw [← List.drop_eq_getElem_cons hk, List.take_append_drop]
  have h2 := congrArg letters h1
  rw [letters_append] at h2
  have h3 : letters ((l.map pq)[k] :: (l.map pq).drop (k + 1)) = (rd_T39 l k).f0.length + letters ((l.map pq).drop (k + 1)) := by
    simp [letters, rd_T39, List.getD_eq_getElem?_getD, List.getElem?_eq_getElem h, pq]
  omega
theorem rd_T39_mem (l : List S39) (k : Nat) (h : k < l.length) : rd_T39 l k ∈ l := by
  simp [rd_T39, List.getD_eq_getElem?_getD, List.getElem?_eq_getElem h]
theorem rd_mem (l : List Int) (k : Nat) (h : k < l.length) : rd l k ∈ l := by
  simp [rd, List.getD_eq_getElem?_getD, List.getElem?_eq_getElem h]
theorem rd_getD (l : List Int) (k : Nat) : l.getD k 0 = rd l (k : Int) := by simp [rd]

set_option maxHeartbeats 4000000 in
set_option maxRecDepth 100000 in
theorem make_calls (l : List S39) (A : Option Addr) (c : Nat) (w : World) (hr : Kd.C k39 w A l.length l) (hc : l.length ≤ c) (h32 : ∀ p ∈ l, ∀ r ∈ p.f0, In32 r) (hL : letters (l.map pq) ≤ 1099511627776) (hV : ∀ p ∈ l, p.f1.length ≤ 1099511627776) :
    Calls Try.prog 19 #[.slice A l.length c] w fun e w' => ∃ bt, e = .returned (.pointer (some ⟨bt, 0, none⟩)) ∧ TrieAt w' w.heap.size bt (make (l.map pq)) ∧ Below w.heap.size w w' := by
  have HR := Aside0.mk hr
  have hmax : l.length ≤ 9223372036854775807 := Kd.C_max hr
  have HC := Aside0.mk hc
  have H32 := Aside0.mk h32
  have HL := Aside0.mk hL
  have HV := Aside0.mk hV
  clear hr hc h32 hL hV
  have hmk := mk84
  go_enter Try.func19, Try.ntmps19
  go_wp2
  clear hmk
  go_loopg [19] l.length (fun g v19 w' => ∃ k : Nat, v19 = .int .i64 k ∧ Aside0 (g + k = l.length) ∧ Aside0 (TrieAt w' w.heap.size (w.heap.size + 1) (make ((l.map pq).take k))) ∧ Aside0 (Below w.heap.size w w'))
  case atStart => exact ⟨0, rfl, ⟨rfl⟩, ⟨_, _, _, _, _, _, Nat.zero_le _, TrieM.start w⟩, ⟨below_alloc (below_alloc (Below.refl _ _) _) _⟩⟩
  case round =>
    obtain ⟨k, rfl, HG, HT, HB⟩ := hrel
    by_cases hk : k < l.length
    · have p1 : (0 : Int) ≤ (k : Int) := by omega
      have q1 : (k : Int) < (l.length : Int) := by omega
      obtain ⟨ad, A0, c0, A1, c1, e1, hx0, hx1, hl0, hi0, hl1, hi1⟩ := at_T39 HR.out (k : Int) p1 q1
      subst e1
      replace hx0 := (HB.out.cell (World.block_lt_of_cell? w _ hx0)).trans hx0
      replace hx1 := (HB.out.cell (World.block_lt_of_cell? w _ hx1)).trans hx1
      simp only [Int.toNat_natCast] at hx0 hx1
      obtain ⟨p, hp⟩ : ∃ p, rd_T39 l (k : Int) = p := ⟨_, rfl⟩
      rw [hp] at hx0 hx1 hl0 hi0 hl1 hi1
      have HP := Aside0.mk hp
      clear hp
      have HR0 := Aside0.mk hi0
      have HC0 := Aside0.mk hl0
      have HR1 := Aside0.mk hi1
      have HC1 := Aside0.mk hl1
      clear hi0 hl0 hi1 hl1
      go_wp2_with fail
      obtain ⟨wo, rfl⟩ : ∃ wo : World, wo = wr := ⟨_, rfl⟩
      obtain ⟨T0, hT0⟩ : ∃ T0, make ((l.map pq).take k) = T0 := ⟨_, rfl⟩
      rw [hT0] at HT
      have hk0 := TM.Ok.make ((l.map pq).take k)
      rw [hT0] at hk0
      have hk1 := letters_take l k hk
      rw [HP.out] at hk1
      have hpm : p ∈ l := HP.out ▸ rd_T39_mem l k hk
      have HT0 := Aside0.mk hT0
      have HK0 : Aside0 (T0.Ok ∧ T0.n + p.f0.length ≤ 1099511627777) := ⟨hk0.1, by have := hk0.2; have := HL.out; omega⟩
      have HPM := Aside0.mk hpm
      have hpl : p.f0.length ≤ 1099511627777 := by have := HK0.out.2; omega
      clear hT0 hk0 hk1 hpm
      go_loopg [6, 26] p.f0.length (fun g v6 v26 w' => ∃ j : Nat, v26 = .int .i64 j ∧ v6 = .int .i64 ((T0.walk (p.f0.take j)).2 : Nat) ∧ Aside0 (g + j = p.f0.length) ∧ Aside0 (TrieAt w' w.heap.size (w.heap.size + 1) (T0.walk (p.f0.take j)).1) ∧ Aside0 (w'.heap[wo.heap.size]? = some (.cells #[.slice A0 p.f0.length c0, .slice A1 p.f1.length c1] 39 (0, 0))) ∧ Aside0 (Below w.heap.size w w'))
      case atStart =>
        obtain ⟨bn, cap, K, xs, ms, vs, hK, hT⟩ := HT.out
        exact ⟨0, rfl, rfl, ⟨rfl⟩, ⟨bn, cap, K, xs, ms, vs, hK, hT.alloc _⟩, ⟨blk_new _ _⟩, ⟨below_alloc HB.out _⟩⟩
      case round =>
        obtain ⟨j, rfl, rfl, HG2, HT2, HP2, HB2⟩ := hrel
        have HT := HT2
        obtain ⟨bn, cap, K, xs, ms, vs, hK, hT⟩ := HT2.out
        clear HT2
        have hcT := hT.cellT
        by_cases hj : j < p.f0.length
        · obtain ⟨i, hi⟩ : ∃ i, (T0.walk (p.f0.take j)).2 = i := ⟨_, rfl⟩
          obtain ⟨T1, hT1⟩ : ∃ T1, (T0.walk (p.f0.take j)).1 = T1 := ⟨_, rfl⟩
          have hw : T0.walk (p.f0.take (j + 1)) = TM.step (T1, i) (p.f0.getD j 0) := by rw [walk_take_succ T0 p.f0 j hj, ← hi, ← hT1]
          rw [hi]
          rw [hT1] at hT hcT hK
          have hwk := TM.Ok.walkTo (s := (T0, 0)) HK0.out.1 HK0.out.1.pos (p.f0.take j)
          have hiT : i < T1.n := by rw [← hi, ← hT1]; exact hwk.2.1
          have hnT : T1.n ≤ 1099511627777 := by rw [← hT1]; have h1 := hwk.2.2.2; have h2 := HK0.out.2; simp only [List.length_take] at h1; unfold TM.walk; omega
          clear hwk
          clear hi hT1
          have HW := Aside0.mk hw
          clear hw
          have p2 : (0 : Int) ≤ (j : Int) := by omega
          have q2 : (j : Int) < (p.f0.length : Int) := by omega
          obtain ⟨ad2, e2, hx2⟩ := Kd.at_int HR0.out (j : Int) p2 q2
          subst e2
          simp only [Int.toNat_natCast] at hx2
          have hx3 : wr.cell? (ad2.add j) = some (.int .i32 (rd p.f0 (j : Int))) := (HB2.out.cell (World.block_lt_of_cell? w _ hx2)).trans hx2
          obtain ⟨r, hr⟩ : ∃ r, rd p.f0 (j : Int) = r := ⟨_, rfl⟩
          rw [hr] at hx3
          have hr32 : In32 r := hr ▸ H32.out p HPM.out _ (rd_mem p.f0 j hj)
          have HRr := Aside0.mk hr
          clear hr hx2
          have hcM := hT.cellM hiT
          have q3 : (i : Int) < (T1.n : Int) := by omega
          cases hn : T1.next i r with
          | some m =>
            have hlook := (hT.mo i).look hr32
            rw [hn] at hlook
            simp only [Option.getD_some, Option.isSome_some] at hlook
            have Hn := Aside0.mk hn
            clear hn
            go_wp2_with fail
            have hs : T0.walk (p.f0.take (j + 1)) = (T1, m) := by rw [HW.out, rd_getD, HRr.out]; simp [TM.step, Hn.out]
            go_roundg (p.f0.length - (j + 1))
            case measure => have := HG2.out; omega
            case rel => exact ⟨j + 1, by go_num, by rw [hs], ⟨by omega⟩, ⟨bn, cap, K, xs, ms, vs, by rw [hs]; exact hK, by rw [hs]; exact hT⟩, HP2, HB2⟩
          | none =>
            have hlook : (Instr.lookup 88 (.map (ms i)) (.int .i32 r) true).run Try.prog wr = .ok (.tuple #[.int .i64 0, .bool false]) wr := by
              have := (hT.mo i).look hr32
              rw [hn] at this
              exact this
            have Hn := Aside0.mk hn
            clear hn
            cases hm : ms i with
            | none =>
              rw [hm] at hlook hcM
              have Hm := Aside0.mk hm
              clear hm
              have hmm := @run_makeMap Try.prog
              have hq := fun w => run_eql_map_nil (P := Try.prog) w _ _ _ none Try.underlying88
              simp only [Option.isNone_none] at hq
              obtain ⟨cells, hcells, hsz⟩ := hT.cells_bn
              have HCE := Aside0.mk (blk_alloc hcells (.map #[] 0))
              clear hcells
              go_wp2_with (first | (refine gate_ (.store 88 (.tmp 66) (.tmp 64)) rfl ?_; refine store1 (u := .map (some wr.heap.size)) rfl rfl 88 (.tmp 66) (.tmp 64) rfl rfl rfl rfl size88 rfl HCE.out (by omega) ?_; intro w1 hw1; have HT1 := Aside0.mk (hT.newMap hiT Hm.out); rw [← hw1] at HT1; have HB1 := Aside0.mk (below_set (below_alloc HB2.out (.map #[] 0)) hT.base_bn (j := i * 2) (v := .map (some wr.heap.size))); rw [← hw1] at HB1; have HP1 := Aside0.mk (hT.side_newMap HP2.out (.map #[] 0) (i * 2) (.map (some wr.heap.size))); rw [← hw1] at HP1; have c1 := HT1.out.cellT; have c2 := HT1.out.cellM hiT; have hmo := HT1.out.mo i; simp only [if_true] at c2 hmo; have Hm1 : Aside0 ((fun j_ => if j_ = i then some wr.heap.size else ms j_) i = some wr.heap.size) := ⟨by simp⟩; obtain ⟨D, ho_, hdm_, hdf_⟩ := hmo; have HOWN := Aside0.mk ho_; have HDM := Aside0.mk hdm_; have HDF := Aside0.mk hdf_; clear hw1 ho_ hdm_ hdf_) | (at_mapUpdate; (refine wpList_mapUpdate_own _ rfl (.tmp 74) (.tmp 75) (.tmp 76) 88 rfl 21 3 law21 Try.underlying88 _ wr.heap.size K D rfl HOWN.out (by simp only [maxLen]; omega) _ _ (.int .i32 r) rfl rfl (Maps.keyOf_int_mk Try.underlying21 hr32.wf) (.lit (.int .i64 (T1.n : Int))) [] (plainElem_int Try.underlying3 (WalkArith.wf_i64 (by omega))) ?_; intro w2 hown2 hg2; have HOWN2 := Aside0.mk hown2; have HG2m := Aside0.mk hg2; have c3 := top_map HT1.out Hm1.out hg2; have HO2 := Aside0.mk (HT1.out.row_put Hm1.out hg2); have HB2m := Aside0.mk (below_map HT1.out Hm1.out HB1.out hg2); clear hown2 hg2)) | (at_builtin; (refine print_append_cells (w0 := w) w.heap.size rfl (.tmp 81) (.tmp 83) 84 90 (.agg #[.map none, .slice none 0 0]) 2 32 rfl Try.underlying84 info90 rfl (by decide) (by decide) (.slice (some ⟨bn, 0, none⟩) T1.n cap) T1.n _ [.map none, .slice none 0 0] rfl rfl rfl node0_one HO2.out HB2m.out (below_size HB2m.out) (by omega) ?_; intro v3 w3 hown3 hb3 hg3 hat3; obtain ⟨g3, cap3, hv3, _, _⟩ := hown3.form (by omega); rw [hv3] at hown3 hat3 ⊢; have HOWN3 := Aside0.mk hown3; have HG3 := Aside0.mk hg3; have HB3 := Aside0.mk hb3; have HAT3 := Aside0.mk (at_block hat3); have HTOP3 := Aside0.mk (HT1.out.top_addNode Hm1.out HG2m.out hg3).2; clear hown3 hb3 hg3 hat3 hv3)) | (refine gate_ (.store 84 (.tmp 86) (.tmp 84)) rfl ?_; (refine store1 (u := .slice (some ⟨g3, 0, none⟩) (T1.n + 1) cap3) rfl rfl 84 (.tmp 86) (.tmp 84) rfl rfl rfl rfl size84 rfl HTOP3.out Nat.zero_lt_one ?_; intro w4 hw4; have HT4 := Aside0.mk (HT1.out.addNode hiT Hm1.out HDM.out HDF.out HOWN2.out HG2m.out HOWN3.out HG3.out HAT3.out); rw [← hw4] at HT4; have HP4 := Aside0.mk (HT1.out.side_addNode Hm1.out HP1.out HG2m.out HG3.out (.slice (some ⟨g3, 0, none⟩) (T1.n + 1) cap3)); rw [← hw4] at HP4; have HB4 := Aside0.mk (below_set HB3.out HT1.out.hb (j := 0) (v := .slice (some ⟨g3, 0, none⟩) (T1.n + 1) cap3)); rw [← hw4] at HB4; clear hw4)))
              have hs : T0.walk (p.f0.take (j + 1)) = (T1.add i r, T1.n) := by rw [HW.out, rd_getD, HRr.out]; simp [TM.step, Hn.out]
              go_roundg (p.f0.length - (j + 1))
              case measure => have := HG2.out; omega
              case rel => exact ⟨j + 1, by go_num, by rw [hs], ⟨by omega⟩, ⟨_, _, _, _, _, _, by rw [hs]; exact Nat.succ_le_succ hK, by rw [hs]; exact HT4.out⟩, HP4, HB4⟩
            | some b =>
              rw [hm] at hlook hcM
              have Hm1 : Aside0 (ms i = some b) := ⟨hm⟩
              have hmo := hT.mo i
              rw [hm] at hmo
              clear hm
              obtain ⟨D, ho_, hdm_, hdf_⟩ := hmo
              have HOWN := Aside0.mk ho_
              have HDM := Aside0.mk hdm_
              have HDF := Aside0.mk hdf_
              clear ho_ hdm_ hdf_
              have HT1 := Aside0.mk hT
              have HB1 := HB2
              have HP1 := HP2
              have hq := fun w => run_eql_map_nil (P := Try.prog) w _ _ _ (some b) Try.underlying88
              simp only [Option.isNone_some] at hq
              go_wp2_with (first | (at_mapUpdate; (refine wpList_mapUpdate_own _ rfl (.tmp 74) (.tmp 75) (.tmp 76) 88 rfl 21 3 law21 Try.underlying88 _ b K D rfl HOWN.out (by simp only [maxLen]; omega) _ _ (.int .i32 r) rfl rfl (Maps.keyOf_int_mk Try.underlying21 hr32.wf) (.lit (.int .i64 (T1.n : Int))) [] (plainElem_int Try.underlying3 (WalkArith.wf_i64 (by omega))) ?_; intro w2 hown2 hg2; have HOWN2 := Aside0.mk hown2; have HG2m := Aside0.mk hg2; have c3 := top_map HT1.out Hm1.out hg2; have HO2 := Aside0.mk (HT1.out.row_put Hm1.out hg2); have HB2m := Aside0.mk (below_map HT1.out Hm1.out HB1.out hg2); clear hown2 hg2)) | (at_builtin; (refine print_append_cells (w0 := w) w.heap.size rfl (.tmp 81) (.tmp 83) 84 90 (.agg #[.map none, .slice none 0 0]) 2 32 rfl Try.underlying84 info90 rfl (by decide) (by decide) (.slice (some ⟨bn, 0, none⟩) T1.n cap) T1.n _ [.map none, .slice none 0 0] rfl rfl rfl node0_one HO2.out HB2m.out (below_size HB2m.out) (by omega) ?_; intro v3 w3 hown3 hb3 hg3 hat3; obtain ⟨g3, cap3, hv3, _, _⟩ := hown3.form (by omega); rw [hv3] at hown3 hat3 ⊢; have HOWN3 := Aside0.mk hown3; have HG3 := Aside0.mk hg3; have HB3 := Aside0.mk hb3; have HAT3 := Aside0.mk (at_block hat3); have HTOP3 := Aside0.mk (HT1.out.top_addNode Hm1.out HG2m.out hg3).2; clear hown3 hb3 hg3 hat3 hv3)) | (refine gate_ (.store 84 (.tmp 86) (.tmp 84)) rfl ?_; (refine store1 (u := .slice (some ⟨g3, 0, none⟩) (T1.n + 1) cap3) rfl rfl 84 (.tmp 86) (.tmp 84) rfl rfl rfl rfl size84 rfl HTOP3.out Nat.zero_lt_one ?_; intro w4 hw4; have HT4 := Aside0.mk (HT1.out.addNode hiT Hm1.out HDM.out HDF.out HOWN2.out HG2m.out HOWN3.out HG3.out HAT3.out); rw [← hw4] at HT4; have HP4 := Aside0.mk (HT1.out.side_addNode Hm1.out HP1.out HG2m.out HG3.out (.slice (some ⟨g3, 0, none⟩) (T1.n + 1) cap3)); rw [← hw4] at HP4; have HB4 := Aside0.mk (below_set HB3.out HT1.out.hb (j := 0) (v := .slice (some ⟨g3, 0, none⟩) (T1.n + 1) cap3)); rw [← hw4] at HB4; clear hw4)))
              have hs : T0.walk (p.f0.take (j + 1)) = (T1.add i r, T1.n) := by rw [HW.out, rd_getD, HRr.out]; simp [TM.step, Hn.out]
              go_roundg (p.f0.length - (j + 1))
              case measure => have := HG2.out; omega
              case rel => exact ⟨j + 1, by go_num, by rw [hs], ⟨by omega⟩, ⟨_, _, _, _, _, _, by rw [hs]; exact Nat.succ_le_succ hK, by rw [hs]; exact HT4.out⟩, HP4, HB4⟩
        · have hje : j = p.f0.length := by have := HG2.out; omega
          have htk : p.f0.take j = p.f0 := by rw [hje, List.take_length]
          rw [htk] at hT hK hcT
          clear HT
          rw [htk]
          clear htk hje
          obtain ⟨i, hi⟩ : ∃ i, (T0.walk p.f0).2 = i := ⟨_, rfl⟩
          obtain ⟨T1, hT1⟩ : ∃ T1, (T0.walk p.f0).1 = T1 := ⟨_, rfl⟩
          have hwk := TM.Ok.walkTo (s := (T0, 0)) HK0.out.1 HK0.out.1.pos p.f0
          have hiT : i < T1.n := by rw [← hi, ← hT1]; exact hwk.2.1
          have hwn : (T0.walk p.f0).1.n ≤ T0.n + p.f0.length := hwk.2.2.2
          have hnT : T1.n ≤ 1099511627777 := by rw [← hT1]; have h2 := HK0.out.2; omega
          clear hwk hwn
          have hw : T0.walk p.f0 = (T1, i) := by rw [← hi, ← hT1]
          rw [hT1] at hT hK hcT
          rw [hi]
          have HW := Aside0.mk hw
          clear hi hT1 hw
          have q3 : (i : Int) < (T1.n : Int) := by omega
          have hcB : wr.cell? ⟨wo.heap.size, 1, none⟩ = some (.slice A1 p.f1.length c1) := by rw [blk_cell HP2.out 1]; rfl
          have hpv : p.f1.length ≤ 1099511627776 := HV.out p HPM.out
          go_wp2_with fail
          clear hcB hcT hj
          obtain ⟨wo2, rfl⟩ : ∃ wo : World, wo = wr := ⟨_, rfl⟩
          go_loopg [98] p.f1.length (fun g v98 w' => ∃ q : Nat, v98 = .int .i64 q ∧ Aside0 (g + q = p.f1.length) ∧ Aside0 (∃ xs vs, TrieM w' w.heap.size (w.heap.size + 1) bn cap K xs ms vs (T1.setVals i (mergeTo (T1.vals i) p.f1 q))) ∧ Aside0 (Below w.heap.size w w'))
          case atStart => exact ⟨0, rfl, ⟨rfl⟩, ⟨xs, vs, by rw [mergeTo_zero, setVals_same]; exact hT⟩, HB2⟩
          case round =>
            obtain ⟨q, rfl, HG3, HT3, HB3⟩ := hrel
            obtain ⟨xs, vs, hT⟩ := HT3.out
            clear HT3
            by_cases hq : q < p.f1.length
            · obtain ⟨T2, hT2⟩ : ∃ T2, T1.setVals i (mergeTo (T1.vals i) p.f1 q) = T2 := ⟨_, rfl⟩
              rw [hT2] at hT
              have hiT2 : i < T2.n := by rw [← hT2]; exact hiT
              have hv2 : T2.vals i = mergeTo (T1.vals i) p.f1 q := by rw [← hT2]; simp [TM.setVals]
              have hlen : q ≤ (T2.vals i).length := by rw [hv2, mergeTo_length]; omega
              have HT2 := Aside0.mk hT2
              have HV2 := Aside0.mk hv2
              clear hT2 hv2
              have p2 : (0 : Int) ≤ (q : Int) := by omega
              have q2 : (q : Int) < (p.f1.length : Int) := by omega
              obtain ⟨ad2, e2, hx2⟩ := Kd.at_int HR1.out (q : Int) p2 q2
              subst e2
              simp only [Int.toNat_natCast] at hx2
              have hx3 : wr.cell? (ad2.add q) = some (.int .u8 (rd p.f1 (q : Int))) := (HB3.out.cell (World.block_lt_of_cell? w _ hx2)).trans hx2
              obtain ⟨v, hv⟩ : ∃ v, rd p.f1 (q : Int) = v := ⟨_, rfl⟩
              rw [hv] at hx3
              have HVv := Aside0.mk hv
              clear hv hx2
              have hcV := hT.cellV hiT2
              obtain ⟨Av, cv, hvs⟩ := own_slice (hT.vo i)
              rw [hvs] at hcV
              have HVS := Aside0.mk hvs
              clear hvs
              by_cases hfit : q < (T2.vals i).length
              · obtain ⟨gv, cv2, hvs, hgb, hgl⟩ := (hT.vo i).form (by omega)
                rw [HVS.out] at hvs
                injection hvs with e1 e2 e3
                subst e1 e3
                have hown := hT.vo i
                rw [HVS.out] at hown
                have hg1 := (own_at hown (q : Int) p2 (by omega)).1
                have hg2 := (own_at hown (q : Int) p2 (by omega)).2
                simp only [Int.toNat_natCast] at hg1 hg2
                obtain ⟨x, hx⟩ : ∃ x, rd (T2.vals i) (q : Int) = x := ⟨_, rfl⟩
                rw [hx] at hg1
                have HX := Aside0.mk hx
                clear hx hown
                have q4 : (q : Int) < ((T2.vals i).length : Int) := by omega
                go_wp2_with fail
                go_region
                go_wp2_with fail
                all_goals
                  go_roundg (p.f1.length - (q + 1))
                  case measure => have := HG3.out; omega
                  case rel => exact ⟨q + 1, by go_num, ⟨by have := HG3.out; omega⟩, ⟨xs, vs, hT.round_fit hiT2 HVS.out HT2.out hfit HX.out HVv.out (by omega)⟩, ⟨below_drew (below_set HB3.out hgb)⟩⟩
              · obtain ⟨L1, hL1⟩ : ∃ L1, T2.vals i ++ [0] = L1 := ⟨_, rfl⟩
                have hl1 : q < L1.length := by rw [← hL1, List.length_append, List.length_singleton]; omega
                have hlm : (T2.vals i).length ≤ 1099511627776 := by omega
                have HL1 := Aside0.mk hL1
                have hown := hT.vo i
                rw [HVS.out] at hown
                have HOV := Aside0.mk hown
                clear hown hL1
                go_wp2_with (first | (at_builtin; (refine print_append_num (w0 := w) w.heap.size rfl (.tmp 114) (.tmp 115) 27 5 .u8 1 rfl Try.underlying27 info5 (by decide) (.slice Av (T2.vals i).length cv) (T2.vals i) 0 rfl rfl HOV.out HB3.out (below_size HB3.out) (by omega) ?_; intro v1 w1 hown1 hb1 hg1 hat1; rw [HL1.out] at hown1; obtain ⟨g1, cap1, hv1, hgb1, _⟩ := hown1.form (by omega); rw [← HVS.out] at hg1 hat1; obtain ⟨cells, hcells, hsz⟩ := hT.cells_grow hg1; have HT6' := Aside0.mk (hT.growVal hiT2 hown1 hg1 hat1); rw [hv1] at HT6' ⊢; have HB6' := Aside0.mk (below_set (j := i * 2 + 1) (v := .slice (some ⟨g1, 0, none⟩) L1.length cap1) hb1 hT.base_bn); have HCE := Aside0.mk hcells; clear hown1 hb1 hg1 hat1 hv1 hcells)) | (refine gate_ (.store 27 (.tmp 118) (.tmp 116)) rfl ?_; (refine store1 (u := .slice (some ⟨g1, 0, none⟩) L1.length cap1) rfl rfl 27 (.tmp 118) (.tmp 116) rfl rfl rfl rfl size27 rfl HCE.out (by omega) ?_; intro w6 hw6; rw [← hw6] at HT6' HB6'; clear hw6)))
                have hT6 := HT6'.out
                have hcV6 := hT6.cellV hiT2
                have hown := hT6.vo i
                simp only [TM.setVals, if_true] at hcV6 hown
                have hg1 := (own_at hown (q : Int) p2 (by omega)).1
                have hg2 := (own_at hown (q : Int) p2 (by omega)).2
                simp only [Int.toNat_natCast] at hg1 hg2
                obtain ⟨x, hx⟩ : ∃ x, rd L1 (q : Int) = x := ⟨_, rfl⟩
                rw [hx] at hg1
                have HX := Aside0.mk hx
                clear hx hown
                have q4 : (q : Int) < (L1.length : Int) := by omega
                go_region
                go_wp2_with fail
                all_goals
                  go_roundg (p.f1.length - (q + 1))
                  case measure => have := HG3.out; omega
                  case rel => exact ⟨q + 1, by go_num, ⟨by have := HG3.out; omega⟩, ⟨_, _, hT6.round_grown hiT2 (if_pos rfl) HT2.out HL1.out (by omega) HX.out HVv.out (by omega)⟩, ⟨below_drew (below_set HB6'.out hgb1)⟩⟩
            · have hqe : q = p.f1.length := by have := HG3.out; omega
              rw [hqe] at hT
              clear hqe
              have hnext : make ((l.map pq).take (k + 1)) = T1.setVals i (mergeTo (T1.vals i) p.f1 p.f1.length) := by
                rw [make_take_succ l k hk, HP.out, HT0.out]
                show (T0.walk p.f0).1.setVals (T0.walk p.f0).2 (mergeTo ((T0.walk p.f0).1.vals (T0.walk p.f0).2) p.f1 p.f1.length) = _
                rw [HW.out]
              have HN := Aside0.mk hnext
              clear hnext
              go_wp2_with fail
              go_roundg (l.length - (k + 1))
              case measure => have := HG.out; omega
              case rel => exact ⟨k + 1, by go_num, ⟨by omega⟩, ⟨_, _, _, _, _, _, by rw [HN.out]; exact hK, by rw [HN.out]; exact hT⟩, HB3⟩
    · have hke : k = l.length := by have := HG.out; omega
      have hT := HT.out
      rw [hke, List.take_of_length_le (by simp)] at hT
      have HT' := Aside0.mk hT
      clear hT hke HT
      go_wp2_with fail
      go_ret
      exact ⟨_, rfl, HT'.out, HB.out⟩
end Go.Proofs.Ytoefjhdcipgacaa.Tr
