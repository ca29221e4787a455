/-
  stanzalaw08.TrieOrder answers true, whatever patterns, word and numbers lie in memory.
-/
import Derived.Test.YtoefjhdcipgacaaAwake08
import Derived.Test.YtoefjhdcipgacaaBegPlain
import Derived.BigRegion
import Derived.Deep.RegionWith
namespace Go.Proofs.Ytoefjhdcipgacaa.Tr
open Go.RowKit Go.Proofs.YtoefjhdcipgacaaW.PrintWords Go.Proofs.YtoefjhdcipgacaaW.PrintLast Go.Proofs.YtoefjhdcipgacaaW.PrintMore
open Go.Proofs.Ytoefjhdcipgacaa.PA
attribute [local go_sem] max2_int min2_int max_two min_two

/-! ### The plain law -/
def Same (M L : List S39) : Prop := M.length ≤ 80 ∧ ∀ p, p ∈ M ↔ p ∈ L
theorem Same.fit {M L : List S39} (h : Same M L) (hL : Fit L) : Fit M := ⟨by have := h.1; omega, fun p hp => hL.2 p ((h.2 p).1 hp)⟩
theorem Same.pats {M L : List S39} (h : Same M L) (p : Pat) : p ∈ M.map pq ↔ p ∈ L.map pq := by
  simp only [List.mem_map]
  exact ⟨fun ⟨q, hq, e⟩ => ⟨q, (h.2 q).1 hq, e⟩, fun ⟨q, hq, e⟩ => ⟨q, (h.2 q).2 hq, e⟩⟩
theorem Same.values {M L : List S39} (h : Same M L) (hL : Fit L) (D : List Int) : values (make (M.map pq)) D = values (make (L.map pq)) D :=
  (values_best _ (h.fit hL).nn D).unique (values_best _ hL.nn D) h.pats (by rw [values_length, values_length])
theorem Same.n {M L : List S39} (h : Same M L) (hL : Fit L) : (make (M.map pq)).n = (make (L.map pq)).n := by
  obtain ⟨ps, hT, hps⟩ := make_tri (M.map pq) (h.fit hL).nn
  obtain ⟨qs, hU, hqs⟩ := make_tri (L.map pq) hL.nn
  rw [← hT.len, ← hU.len]
  refine len_of_nodup hT.nodup hU.nodup (fun q => ?_)
  rw [hps, hqs]
  constructor
  · rintro (e | ⟨p, hp, h2⟩)
    · exact .inl e
    · exact .inr ⟨p, (h.pats p).1 hp, h2⟩
  · rintro (e | ⟨p, hp, h2⟩)
    · exact .inl e
    · exact .inr ⟨p, (h.pats p).2 hp, h2⟩
theorem swap_mem (M : List S39) (i k : Nat) (hi : i < M.length) (hk : k < M.length) (z : S39) : ∀ p, p ∈ (M.set i (M.getD k z)).set k (M.getD i z) ↔ p ∈ M := by
  have e1 : M.getD k z = M[k] := by rw [List.getD_eq_getElem?_getD, List.getElem?_eq_getElem hk]; rfl
  have e2 : M.getD i z = M[i] := by rw [List.getD_eq_getElem?_getD, List.getElem?_eq_getElem hi]; rfl
  rw [e1, e2]
  intro p
  constructor
  · intro h
    rcases List.mem_or_eq_of_mem_set h with h | rfl
    · rcases List.mem_or_eq_of_mem_set h with h | rfl
      · exact h
      · exact List.getElem_mem hk
    · exact List.getElem_mem hi
  · intro h
    obtain ⟨j, hj, rfl⟩ := List.getElem_of_mem h
    rw [List.mem_iff_getElem]
    by_cases h1 : j = i
    · subst h1
      exact ⟨k, by rw [List.length_set, List.length_set]; exact hk, by rw [List.getElem_set_self]⟩
    · by_cases h2 : j = k
      · subst h2
        refine ⟨i, by rw [List.length_set, List.length_set]; exact hi, ?_⟩
        rw [List.getElem_set_ne (by omega), List.getElem_set_self]
      · exact ⟨j, by rw [List.length_set, List.length_set]; exact hj, by rw [List.getElem_set_ne (by omega), List.getElem_set_ne (by omega)]⟩
theorem Same.swap {M L : List S39} (h : Same M L) {i k : Nat} (hi : i < M.length) (hk : k < M.length) (z : S39) : Same ((M.set i (M.getD k z)).set k (M.getD i z)) L :=
  ⟨by rw [List.length_set, List.length_set]; exact h.1, fun p => (swap_mem M i k hi hk z p).trans (h.2 p)⟩
theorem Same.twice {L : List S39} (h : L.length ≤ 40) : Same (L ++ L) L := ⟨by rw [List.length_append]; omega, fun p => by simp⟩

theorem swap_idx (o : Int) (n : Nat) (hn : 0 < n) (h80 : n ≤ 80) : ∃ k : Nat, wrap64 ((IntKind.u64.wrap o).tmod (n : Int)) = (k : Int) ∧ k < n := by
  have hu : 0 ≤ IntKind.u64.wrap o := by
    simp [IntKind.wrap, IntKind.signed, IntKind.bits]
    omega
  rw [Int.tmod_eq_emod_of_nonneg hu]
  have h1 := Int.emod_nonneg (IntKind.u64.wrap o) (show (n : Int) ≠ 0 by omega)
  have h2 := Int.emod_lt_of_pos (IntKind.u64.wrap o) (show (0 : Int) < n by omega)
  generalize IntKind.u64.wrap o % (n : Int) = m at h1 h2
  refine ⟨m.toNat, ?_, by omega⟩
  unfold wrap64
  omega

theorem N_put2 {W : World} {base g n cap i : Nat} {M : List S39} {x' : S39} {u v : Value} (hN : Kd.N k39 39 W base (fun _ => True) (.slice (some ⟨g, 0, none⟩) n cap) M) (hi : i < n) (hM : Kd.FK k39 W (fun k => True ∧ k ≠ g) x' [u, v]) :
    Kd.N k39 39 ((W.setCell ⟨g, i * 2, none⟩ u).setCell ⟨g, i * 2 + 1, none⟩ v) base (fun _ => True) (.slice (some ⟨g, 0, none⟩) n cap) (M.set i x') ∧ W.grownBy ((W.setCell ⟨g, i * 2, none⟩ u).setCell ⟨g, i * 2 + 1, none⟩ v) (some g) := by
  obtain ⟨c, hcl, _, hcc, _⟩ := Kd.N_elem hN x' (i : Int) (by omega) (by omega)
  have hc2 : c.drop 2 = [] := List.drop_of_length_le (by rw [hcl]; exact Nat.le_refl 2)
  have h := Kd.N_seg hN (i : Int) (by omega) (by omega) (c := c) (seg := [u, v]) (j := 0) (x' := x') (okp := fun k => True ∧ k ≠ g) hcl hcc (Nat.le_refl 2) (by
    have e : c.take 0 ++ [u, v] ++ c.drop (0 + [u, v].length) = [u, v] := by rw [show c.drop (0 + [u, v].length) = [] from hc2]; rfl
    rw [e]
    exact hM) (fun k hk => hk)
  exact h
theorem N_swap {W w4 : World} {g n cap i k : Nat} {M : List S39} {u0 u1 v0 v1 : Value} (hN : Kd.N k39 39 W w4.heap.size (fun _ => True) (.slice (some ⟨g, 0, none⟩) n cap) M) (hB : Below w4.heap.size w4 W) (hi : i < n) (hk : k < n) (z : S39)
    (hI : Kd.FK k39 W (fun k => True ∧ k ≠ g) (M.getD i z) [u0, u1]) (hK : Kd.FK k39 W (fun k => True ∧ k ≠ g) (M.getD k z) [v0, v1]) :
    Kd.N k39 39 ((((W.setCell ⟨g, i * 2, none⟩ v0).setCell ⟨g, i * 2 + 1, none⟩ v1).setCell ⟨g, k * 2, none⟩ u0).setCell ⟨g, k * 2 + 1, none⟩ u1) w4.heap.size (fun _ => True) (.slice (some ⟨g, 0, none⟩) n cap) ((M.set i (M.getD k z)).set k (M.getD i z)) ∧
      Below w4.heap.size w4 ((((W.setCell ⟨g, i * 2, none⟩ v0).setCell ⟨g, i * 2 + 1, none⟩ v1).setCell ⟨g, k * 2, none⟩ u0).setCell ⟨g, k * 2 + 1, none⟩ u1) := by
  obtain ⟨h1, g1⟩ := N_put2 hN hi hK
  obtain ⟨h2, g2⟩ := N_put2 h1 hk (Kd.FK_grown hI g1 (fun b hb e => hb.2 (by injection e)))
  have hg : w4.heap.size ≤ g := Kd.N_base hN g (by simp [Value.ownBlock])
  have b1 := hB.grown g1 hB.size (fun b hb => by injection hb with hb; omega)
  exact ⟨h2, b1.grown g2 b1.size (fun b hb => by injection hb with hb; omega)⟩

/-! ### The walk -/
set_option maxHeartbeats 4000000 in
set_option maxRecDepth 100000 in
theorem trieOrder_row (l : List S39) (A : Option Addr) (c : Nat) (wd : List Int) (A2 : Option Addr) (c2 : Nat) (ord : List Int) (A5 : Option Addr) (c5 : Nat) (w : World) (hl : Kd.C k39 w A l.length l) (hlc : l.length ≤ c) (pl : Pats l)
    (hw : Kd.C (Kd.int .i32) w A2 wd.length wd) (hwc : wd.length ≤ c2) (h32 : ∀ r ∈ wd, In32 r) (ho : Kd.C (Kd.int .i64) w A5 ord.length ord) (hoc : ord.length ≤ c5) (h64 : ∀ r ∈ ord, -9223372036854775808 ≤ r ∧ r ≤ 9223372036854775807) :
    Calls Try.prog 5 #[.slice A l.length c, .slice A2 wd.length c2, .slice A5 ord.length c5] w fun e w' => e = .returned (.bool true) ∧ Below w.heap.size w w' := by
  have HL := Aside0.mk hl
  have HLc := Aside0.mk hlc
  have HW := Aside0.mk hw
  have HWc := Aside0.mk hwc
  have hom : ord.length ≤ 9223372036854775807 := Kd.C_max ho
  have HO := Aside0.mk ho
  have HOc := Aside0.mk hoc
  have H64 := Aside0.mk h64
  have HF : Aside0 (Fit (Sm.small true l) ∧ (Sm.small true l).length ≤ 40) := ⟨small_fit true l pl, Sm.smallTo_len true l 40⟩
  have HD := Aside0.mk (word_fit true wd h32)
  clear hl hlc hw hwc ho hoc pl h32 h64
  go_enter Try.func5, Try.ntmps5
  go_wp2_with (first
    | ((with_reducible refine gate_callee (f := 16) rfl ?_); (refine goesL_ (some 12) rfl rfl Try.func16 (by kernel_rfl) rfl #[] rfl (by (try simp only [List.map_toArray, List.map_nil]); first | done | rfl) ?_; refine (awake_calls _).mono ?_; rintro e w1 ⟨rfl, hb⟩; refine ⟨_, rfl, ?_⟩; replace HL := Aside0.mk (Kd.C_below HL.out hb); replace HW := Aside0.mk (Kd.C_below HW.out hb); replace HO := Aside0.mk (Kd.C_below HO.out hb); have HB := Aside0.mk hb; clear hb))
    | ((with_reducible refine gate_callee (f := 17) rfl ?_); (refine goesL_ (some 15) rfl rfl Try.func17 (by kernel_rfl) rfl #[.slice A l.length c, .bool true] rfl (by (try simp only [List.map_toArray, List.map_cons, List.map_nil]); first | done | rfl) ?_; refine (Sm.small_calls true l A c _ HL.out HLc.out).mono ?_; rintro e w2 ⟨v_, rfl, hr_, hb⟩; refine ⟨_, rfl, ?_⟩; replace HW := Aside0.mk (Kd.C_below HW.out hb); replace HO := Aside0.mk (Kd.C_below HO.out hb); replace HB := Aside0.mk (below_step HB.out hb); obtain ⟨A3, c3, hv_, hl_, hc_⟩ := Kd.R_reads hr_; subst hv_; replace HL := Aside0.mk hc_; replace HLc := Aside0.mk hl_; clear hr_ hl_ hc_; generalize Sm.small true l = L at HL HLc HF ⊢; clear hb))
    | ((with_reducible refine gate_callee (f := 18) rfl ?_); (refine goesL_ (some 17) rfl rfl Try.func18 (by kernel_rfl) rfl #[.slice A2 wd.length c2, .bool true] rfl (by (try simp only [List.map_toArray, List.map_cons, List.map_nil]); first | done | rfl) ?_; refine (Lf.word_calls A2 c2 wd true _ HW.out HWc.out).mono ?_; rintro e w4 ⟨v_, rfl, hr_, hb⟩; refine ⟨_, rfl, ?_⟩; replace HL := Aside0.mk (Kd.C_below HL.out hb); replace HO := Aside0.mk (Kd.C_below HO.out hb); replace HB := Aside0.mk (below_step HB.out hb); obtain ⟨A4, c4, hv_, hl_, hc_⟩ := Kd.R_reads hr_; subst hv_; replace HW := Aside0.mk hc_; replace HWc := Aside0.mk hl_; clear hr_ hl_ hc_; generalize Lf.word true wd = D at HW HWc HD ⊢; clear hb); have hl40 := HF.out.2)
    | ((with_reducible refine gate_dst (N := 18) rfl ?_); (refine Kd.N_lit k39 (w0 := w4) w4.heap.size 39 ?hg (N' := 18) ?hd (xs := ([] : List S39)) (inner := []) (ok := fun _ => True) (okp := fun _ => True) ?hr ?hp (fun _ hk => hk) trivial (Below.refl _ _) (Nat.le_refl _) (by simp) ?_; (case hd => rfl); (case hg => rfl); (case hr => first | (go_simp; done) | (go_simp; rfl)); (case hp => exact Reps.none _ _); intro v18 w18 hn_ hb_ hg_ hat_; have HN := Aside0.mk hn_; have HBn := Aside0.mk hb_; clear hn_ hb_ hg_ hat_))
    | ((with_reducible refine gate_builtin (b := .append) (xs := #[.tmp 18, .tmp 19]) rfl ?_); at_builtin; (refine Kd.N_append_rows k39 (w0 := w4) w4.heap.size rfl (.tmp 18) (.tmp 19) 22 39 (.agg #[.slice none 0 0, .slice none 0 0]) 48 rfl Try.underlying22 info39 rfl (by decide) (by decide) v18 [] L A3 L.length c3 (fun _ => True) (fun k => k < w4.heap.size) rfl rfl HN.out (Kd.F_below (Kd.C_F k39_heap HL.out) HBn.out) (fun k hk => ⟨trivial, fun e => by have := Kd.N_base HN.out k e.symm; omega⟩) (fun _ _ => trivial) HBn.out (below_size HBn.out) (by simp; omega) ?_; intro v20 w20 hn_ hb_ hg_ hat_; clear hg_ hat_; replace HN := Aside0.mk hn_; replace HBn := Aside0.mk hb_; clear hn_ hb_))
    | ((with_reducible refine gate_builtin (b := .append) (xs := #[.tmp 20, .tmp 21]) rfl ?_); at_builtin; (refine Kd.N_append_rows k39 (w0 := w4) w4.heap.size rfl (.tmp 20) (.tmp 21) 22 39 (.agg #[.slice none 0 0, .slice none 0 0]) 48 rfl Try.underlying22 info39 rfl (by decide) (by decide) v20 ([] ++ L) L A3 L.length c3 (fun _ => True) (fun k => k < w4.heap.size) rfl rfl HN.out (Kd.F_below (Kd.C_F k39_heap HL.out) HBn.out) (fun k hk => ⟨trivial, fun e => by have := Kd.N_base HN.out k e.symm; omega⟩) (fun _ _ => trivial) HBn.out (below_size HBn.out) (by simp; omega) ?_; intro v22 w22 hn_ hb_ hg_ hat_; clear hg_ hat_; rw [List.nil_append] at hn_; obtain ⟨M, hm_⟩ : ∃ M, L ++ L = M := ⟨_, rfl⟩; rw [hm_] at hn_; obtain ⟨A7, c7, hv_⟩ := Kd.N_slice hn_; subst hv_; obtain ⟨n, hnn_⟩ : ∃ n, M.length = n := ⟨_, rfl⟩; rw [hnn_] at hn_ ⊢; have hn80 : n ≤ 80 := (by rw [← hnn_, ← hm_, List.length_append]; omega); replace HN := Aside0.mk hn_; replace HBn := Aside0.mk hb_; have HM := Aside0.mk hm_; have HMn := Aside0.mk hnn_; clear hn_ hb_ hm_ hnn_)))
  have HS : Aside0 (Same M L ∧ M.length = n) := ⟨HM.out ▸ Same.twice HF.out.2, HMn.out⟩
  go_loopg [8, 9, 25] n (fun g v8 v9 v25 w' => ∃ (i : Nat) (M : List S39), v25 = .int .i64 i ∧ Aside0 (g + i = n) ∧ Aside0 (Same M L ∧ M.length = n) ∧ Aside0 (Kd.N k39 39 w' w4.heap.size (fun _ => True) (.slice A7 n c7) M) ∧ Aside0 (Below w4.heap.size w4 w'))
  case atStart => exact ⟨0, M, rfl, ⟨rfl⟩, HS, HN, HBn⟩
  case round =>
    clear HS HN HBn HM HMn
    obtain ⟨i, M, rfl, HG, HS, HN, HBl⟩ := hrel
    by_cases hi : i < n
    · by_cases hio : i < ord.length
      · obtain ⟨ad, e1, hx⟩ := Kd.at_int HO.out (i : Int) (by omega) (by omega)
        subst e1
        replace hx := (HBl.out.cell (World.block_lt_of_cell? w4 _ hx)).trans hx
        rw [Int.toNat_natCast] at hx
        generalize rd ord (i : Int) = o at hx
        have p1 : (0 : Int) ≤ (i : Int) := by omega
        have q1 : (i : Int) < (ord.length : Int) := by omega
        have hvn0 : ((n : Int) = 0) = False := eq_false (by omega)
        have hnpos : 0 < n := by omega
        obtain ⟨k, hk, hkn⟩ := swap_idx o n hnpos (by omega)
        go_wp2_with fail
        rw [hk]
        obtain ⟨g, cap, hv, _, _, _⟩ := Kd.N_form HN.out (by rw [HS.out.2]; exact hnpos)
        injection hv with hv _ _
        subst hv
        obtain ⟨ci, _, hfi, hci, hzi⟩ := Kd.N_elem HN.out (⟨[], []⟩ : S39) (i : Int) (by omega) (by omega)
        obtain ⟨ck, _, hfk, hck, hzk⟩ := Kd.N_elem HN.out (⟨[], []⟩ : S39) (k : Int) (by omega) (by omega)
        rw [Int.toNat_natCast] at hfi hci hzi hfk hck hzk
        obtain ⟨a0, d0, a1, d1, rfl, _, _, _, _⟩ := k39_openF hfi
        obtain ⟨b0, e0, b1, e1, rfl, _, _, _, _⟩ := k39_openF hfk
        generalize (M.getD i ⟨[], []⟩).f0.length = n0 at hci hfi
        generalize (M.getD i ⟨[], []⟩).f1.length = n1 at hci hfi
        generalize (M.getD k ⟨[], []⟩).f0.length = m0 at hck hfk
        generalize (M.getD k ⟨[], []⟩).f1.length = m1 at hck hfk
        have HFi := Aside0.mk hfi
        have HFk := Aside0.mk hfk
        have HCi := Aside0.mk hci
        have HCk := Aside0.mk hck
        have x0 : wr.cell? ⟨g, i * 2, none⟩ = some (.slice a0 n0 d0) := hci 0 _ rfl
        have x1 : wr.cell? ⟨g, i * 2 + 1, none⟩ = some (.slice a1 n1 d1) := hci 1 _ rfl
        have y0 : wr.cell? ⟨g, k * 2, none⟩ = some (.slice b0 m0 e0) := hck 0 _ rfl
        have y1 : wr.cell? ⟨g, k * 2 + 1, none⟩ = some (.slice b1 m1 e1) := hck 1 _ rfl
        have fx0 : wr.frozen? ⟨g, i * 2, none⟩ = false := hzi 0
        have fx1 : wr.frozen? ⟨g, i * 2 + 1, none⟩ = false := hzi 1
        have fy0 : wr.frozen? ⟨g, k * 2, none⟩ = false := hzk 0
        have fy1 : wr.frozen? ⟨g, k * 2 + 1, none⟩ = false := hzk 1
        clear hfi hfk hci hck hzi hzk hk hx
        have p3 : (0 : Int) ≤ (k : Int) := by omega
        have q2 : (i : Int) < (n : Int) := by omega
        have q3 : (k : Int) < (n : Int) := by omega
        have HSW := Aside0.mk (N_swap HN.out HBl.out hi hkn (⟨[], []⟩ : S39) HFi.out HFk.out)
        by_cases hik : i = k
        · subst hik
          replace HSW := Aside0.mk (N_swap HN.out HBl.out hi hkn (⟨[], []⟩ : S39) HFi.out HFi.out)
          go_region
          go_wp2_with fail
          go_roundg (n - (i + 1))
          case measure => have := HG.out; omega
          case rel => exact ⟨i + 1, _, by go_num, ⟨by omega⟩, ⟨Same.swap HS.out.1 (by rw [HS.out.2]; exact hi) (by rw [HS.out.2]; exact hkn) ⟨[], []⟩, by rw [List.length_set, List.length_set]; exact HS.out.2⟩, ⟨Kd.N_drew HSW.out.1⟩, ⟨below_drew HSW.out.2⟩⟩
        · have hne : ¬ i * 2 = k * 2 := by omega
          go_region
          go_wp2_with fail
          go_roundg (n - (i + 1))
          case measure => have := HG.out; omega
          case rel => exact ⟨i + 1, _, by go_num, ⟨by omega⟩, ⟨Same.swap HS.out.1 (by rw [HS.out.2]; exact hi) (by rw [HS.out.2]; exact hkn) ⟨[], []⟩, by rw [List.length_set, List.length_set]; exact HS.out.2⟩, ⟨Kd.N_drew HSW.out.1⟩, ⟨below_drew HSW.out.2⟩⟩
      · have q1 : ¬ (i : Int) < (ord.length : Int) := by omega
        go_wp2_with fail
        go_roundg (n - (i + 1))
        case measure => have := HG.out; omega
        case rel => exact ⟨i + 1, M, by go_num, ⟨by omega⟩, HS, HN, HBl⟩
    · obtain ⟨_, hncap, hcM⟩ := Kd.N_reads' HN.out
      have HMc := Aside0.mk (show Kd.C k39 wr A7 M.length M from hcM)
      have HMl : Aside0 (M.length ≤ c7) := ⟨by rw [HS.out.2]; exact hncap⟩
      have HSm := Aside0.mk HS.out.1
      have HFM := Aside0.mk (HS.out.1.fit HF.out.1)
      have hmn : n = M.length := HS.out.2.symm
      subst hmn
      replace HL := Aside0.mk (Kd.C_below HL.out HBl.out)
      replace HW := Aside0.mk (Kd.C_below HW.out HBl.out)
      replace HB := Aside0.mk (below_step HB.out HBl.out)
      clear HN HBl hcM hncap HG HO HS
      go_wp2_with (first
        | ((with_reducible refine gate_callee (f := 19) rfl ?_); (refine goesL_ (some 58) rfl rfl Try.func19 (by kernel_rfl) rfl #[.slice A3 L.length c3] rfl (by (try simp only [List.map_toArray, List.map_cons, List.map_nil]); first | done | rfl) ?_; refine (make_fit L A3 c3 _ HL.out HLc.out HF.out.1).mono ?_; rintro e w58 ⟨bt1, rfl, hT_, hb⟩; refine ⟨_, rfl, ?_⟩; replace HL := Aside0.mk (Kd.C_below HL.out hb); replace HW := Aside0.mk (Kd.C_below HW.out hb); replace HMc := Aside0.mk (Kd.C_below HMc.out hb); replace HB := Aside0.mk (below_step HB.out hb); have HT1 := Aside0.mk hT_; clear hT_; clear hb))
        | ((with_reducible refine gate_callee (f := 19) rfl ?_); (refine goesL_ (some 60) rfl rfl Try.func19 (by kernel_rfl) rfl #[.slice A7 M.length c7] rfl (by (try simp only [List.map_toArray, List.map_cons, List.map_nil]); first | done | rfl) ?_; refine (make_fit M A7 c7 _ HMc.out HMl.out HFM.out).mono ?_; rintro e w60 ⟨bt2, rfl, hT_, hb⟩; refine ⟨_, rfl, ?_⟩; replace HL := Aside0.mk (Kd.C_below HL.out hb); replace HW := Aside0.mk (Kd.C_below HW.out hb); replace HMc := Aside0.mk (Kd.C_below HMc.out hb); replace HB := Aside0.mk (below_step HB.out hb); replace HT1 := Aside0.mk (HT1.out.below hb); have HT2 := Aside0.mk hT_; clear hT_; clear hb)))
      replace HW := Aside0.mk (Kd.C_drew HW.out)
      replace HT1 := Aside0.mk (HT1.out.below (below_drew (Below.refl _ _)))
      replace HT2 := Aside0.mk (HT2.out.below (below_drew (Below.refl _ _)))
      replace HB := Aside0.mk (below_drew HB.out)
      have HVE := Aside0.mk (HSm.out.values HF.out.1 D)
      have HNE := Aside0.mk (HSm.out.n HF.out.1)
      go_region_with (first
        | (go_at_call_of 20 bt1; refine Calls.mono (values_fit L _ bt1 A4 c4 D _ HT1.out HW.out HWc.out HF.out.1 HD.out) ?_; rintro e wv ⟨vv, rfl, hV, hb⟩; replace HW := Aside0.mk (Kd.C_below HW.out hb); replace HB := Aside0.mk (below_step HB.out hb); replace HT1 := Aside0.mk (HT1.out.below hb); replace HT2 := Aside0.mk (HT2.out.below hb); (try (have HVb' := Aside0.mk (Kd.R_below HVb.out hb); clear hcb HVb; have HVb := HVb'; clear HVb'; have hcb := own_string (P := Try.prog) Try.underlying27 Try.underlying5 Try.underlying9 (Kd.own_of_R HVb.out))); have hca := own_string (P := Try.prog) Try.underlying27 Try.underlying5 Try.underlying9 (Kd.own_of_R hV); have HVa := Aside0.mk hV; clear hb hV)
        | (go_at_call_of 20 bt2; refine Calls.mono (values_fit M _ bt2 A4 c4 D _ HT2.out HW.out HWc.out HFM.out HD.out) ?_; rintro e wv ⟨vv, rfl, hV, hb⟩; rw [HVE.out] at hV; replace HW := Aside0.mk (Kd.C_below HW.out hb); replace HB := Aside0.mk (below_step HB.out hb); replace HT1 := Aside0.mk (HT1.out.below hb); replace HT2 := Aside0.mk (HT2.out.below hb); (try (have HVa' := Aside0.mk (Kd.R_below HVa.out hb); clear hca HVa; have HVa := HVa'; clear HVa'; have hca := own_string (P := Try.prog) Try.underlying27 Try.underlying5 Try.underlying9 (Kd.own_of_R HVa.out))); have hcb := own_string (P := Try.prog) Try.underlying27 Try.underlying5 Try.underlying9 (Kd.own_of_R hV); have HVb := Aside0.mk hV; clear hb hV)
        | (go_at_call_of 22 bt1; refine Calls.mono (size_calls _ _ bt1 _ HT1.out) ?_; rintro e wz ⟨rfl, rfl⟩)
        | (go_at_call_of 22 bt2; refine Calls.mono (size_calls _ _ bt2 _ HT2.out) ?_; rintro e wz ⟨rfl, rfl⟩; rw [HNE.out]))
      all_goals go_wp2_with fail
      all_goals go_ret
      all_goals exact ⟨rfl, HB.out⟩
end Go.Proofs.Ytoefjhdcipgacaa.Tr
