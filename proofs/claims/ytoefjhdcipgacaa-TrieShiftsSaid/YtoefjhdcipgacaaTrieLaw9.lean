/-
  stanzalaw08.TrieShifts answers true, whatever patterns and words lie in memory.
-/
import Derived.Test.YtoefjhdcipgacaaAwake08
namespace Go.Proofs.Ytoefjhdcipgacaa.Tr
open Go.RowKit Go.Proofs.YtoefjhdcipgacaaW.PrintWords Go.Proofs.YtoefjhdcipgacaaW.PrintLast Go.Proofs.YtoefjhdcipgacaaW.PrintMore
open Go.Proofs.Ytoefjhdcipgacaa.PA
attribute [local go_sem] max2_int min2_int max_two min_two

/-! ### The plain law -/
theorem prefix_no_dot {p w : List Int} (hp : p ≠ []) (hd : ∀ r ∈ p, r ≠ 46) {s : Nat} (h : p <+: (46 :: w ++ [46]).drop s) : 1 ≤ s ∧ p <+: w.drop (s - 1) := by
  have hs : 1 ≤ s := by
    rcases Nat.eq_zero_or_pos s with rfl | h1
    · cases p with
      | nil => exact absurd rfl hp
      | cons r p =>
        rw [List.drop_zero, List.cons_append, List.cons_prefix_cons] at h
        exact absurd h.1 (hd r (List.mem_cons_self ..))
    · exact h1
  refine ⟨hs, ?_⟩
  obtain ⟨t, rfl⟩ : ∃ t, s = t + 1 := ⟨s - 1, by omega⟩
  rw [List.cons_append, List.drop_succ_cons] at h
  rw [Nat.add_sub_cancel]
  rcases Nat.lt_or_ge w.length t with hlt | hge
  · rw [List.drop_of_length_le (by rw [List.length_append, List.length_singleton]; omega)] at h
    exact absurd (List.prefix_nil.1 h) hp
  · rw [List.drop_append_of_le_length hge] at h
    rcases List.prefix_concat_iff.1 h with h | h
    · exact absurd rfl (hd 46 (by rw [h]; exact List.mem_append_right _ (List.mem_singleton.2 rfl)))
    · exact h
theorem shifts_best {l : List Pat} (hl : ∀ p ∈ l, p.1 ≠ [] ∧ ∀ r ∈ p.1, r ≠ 46) {a w b X Y : List Int} (hx : Best l (46 :: w ++ [46]) X) (hy : Best l (46 :: (a ++ w ++ b) ++ [46]) Y) (lx : X.length = w.length + 1) (ly : Y.length = (a ++ w ++ b).length + 1)
    (i : Nat) (hi : i < w.length + 1) : X.getD i 0 ≤ Y.getD (a.length + i) 0 := by
  have hj : a.length + i < Y.length := by rw [ly, List.length_append, List.length_append]; omega
  obtain ⟨y0, y1, _⟩ := hy (a.length + i) hj
  obtain ⟨_, _, x⟩ := hx i (by omega)
  rcases x with x | ⟨s, p, hp, hw, hs, x⟩
  · rw [x]; exact y0
  · obtain ⟨h1, h2⟩ := prefix_no_dot (hl p hp).1 (hl p hp).2 hw
    have h3 : p.1 <+: (46 :: (a ++ w ++ b) ++ [46]).drop (a.length + s) := by
      obtain ⟨t, rfl⟩ : ∃ t, s = t + 1 := ⟨s - 1, by omega⟩
      rw [← Nat.add_assoc, List.cons_append, List.drop_succ_cons, List.append_assoc, List.append_assoc, List.drop_append, List.drop_of_length_le (Nat.le_add_right _ _), List.nil_append, Nat.add_sub_cancel_left]
      rw [Nat.add_sub_cancel] at h2
      refine h2.trans ?_
      rw [List.drop_append]
      exact List.prefix_append _ _
    have := y1 (a.length + s) p hp h3 (by omega)
    rw [show a.length + i + 1 - (a.length + s) = i + 1 - s by omega, x] at this
    exact this
def dotsB (ls : List Int) : Bool := ls.any (fun r => decide (r = 46))
def plainB (p : S39) : Bool := !(dotsB p.f0) && decide (0 < p.f0.length) && decide (p.f1.length ≤ p.f0.length + 1)
def plainTo (L : List S39) (k : Nat) : List S39 := (L.take k).filter plainB
theorem plainTo_succ (L : List S39) (k : Nat) (h : k < L.length) : plainTo L (k + 1) = plainTo L k ++ (if plainB (rd_T39 L (k : Int)) = true then [rd_T39 L (k : Int)] else []) := by
  unfold plainTo
  rw [List.take_succ_eq_append_getElem h, List.filter_append]
  have : rd_T39 L (k : Int) = L[k] := by simp [rd_T39, List.getD_eq_getElem?_getD, List.getElem?_eq_getElem h]
  rw [this]
  cases e : plainB L[k] <;> simp [e]
theorem plainTo_yes {L : List S39} {k : Nat} {p : S39} (h : k < L.length) (hp : rd_T39 L (k : Int) = p) (hb : plainB p = true) : plainTo L (k + 1) = plainTo L k ++ [p] := by
  rw [plainTo_succ L k h, hp, if_pos hb]
theorem plainTo_no {L : List S39} {k : Nat} {p : S39} (h : k < L.length) (hp : rd_T39 L (k : Int) = p) (hb : plainB p = false) : plainTo L (k + 1) = plainTo L k := by
  rw [plainTo_succ L k h, hp, hb, if_neg (by decide), List.append_nil]
theorem dotsB_succ (ls : List Int) (j : Nat) (h : j < ls.length) : dotsB (ls.take (j + 1)) = (dotsB (ls.take j) || decide (rd ls (j : Int) = 46)) := by
  unfold dotsB
  rw [List.take_succ_eq_append_getElem h, List.any_append]
  have : rd ls (j : Int) = ls[j] := by simp [rd, List.getD_eq_getElem?_getD, List.getElem?_eq_getElem h]
  rw [this]
  simp
theorem plainTo_len (L : List S39) (k : Nat) : (plainTo L k).length ≤ L.length := Nat.le_trans (List.length_filter_le _ _) (List.length_take_le' _ _)
theorem plain_fit {L : List S39} (h : Fit L) (k : Nat) : Fit (plainTo L k) := ⟨Nat.le_trans (plainTo_len L k) h.1, fun p hp => h.2 p (List.mem_of_mem_take (List.mem_filter.1 hp).1)⟩
theorem plain_ok (L : List S39) (k : Nat) : ∀ p ∈ (plainTo L k).map pq, p.1 ≠ [] ∧ ∀ r ∈ p.1, r ≠ 46 := by
  intro p hp
  obtain ⟨q, hq, rfl⟩ := List.mem_map.1 hp
  have h := (List.mem_filter.1 hq).2
  simp only [plainB, dotsB, Bool.and_eq_true, Bool.not_eq_true', decide_eq_true_eq, List.any_eq_false] at h
  refine ⟨fun e => ?_, fun r hr => by simpa using h.1.1 r hr⟩
  have h0 : q.f0 = [] := e
  rw [h0] at h
  exact absurd h.1.2 (Nat.lt_irrefl _)
theorem word3 {a b c : List Int} (ha : Word a ∧ a.length ≤ 60) (hb : Word b ∧ b.length ≤ 60) (hc : Word c ∧ c.length ≤ 60) : Word (a ++ b ++ c) := by
  refine ⟨by rw [List.length_append, List.length_append]; omega, fun r hr => ?_⟩
  rcases List.mem_append.1 hr with hr | hr
  · exact (List.mem_append.1 hr).elim (ha.1.2 r) (hb.1.2 r)
  · exact hc.1.2 r hr
theorem vals_shift {L : List S39} (hL : Fit L) (k : Nat) (a w b : List Int) (i : Nat) (hi : i < w.length + 1) :
    rd (values (make ((plainTo L k).map pq)) w) (i : Int) ≤ rd (values (make ((plainTo L k).map pq)) (a ++ w ++ b)) ((a.length : Int) + (i : Int)) := by
  have := shifts_best (plain_ok L k) (values_best _ (plain_fit hL k).nn w) (values_best _ (plain_fit hL k).nn (a ++ w ++ b)) (values_length _ _) (values_length _ _) i hi
  exact this

/-! ### The walk -/
set_option maxHeartbeats 4000000 in
set_option maxRecDepth 100000 in
theorem trieShifts_row (l : List S39) (A : Option Addr) (c : Nat) (l1 : List Int) (A1 : Option Addr) (c1 : Nat) (l2 : List Int) (A2 : Option Addr) (c2 : Nat) (l3 : List Int) (A3 : Option Addr) (c3 : Nat) (w : World)
    (hl : Kd.C k39 w A l.length l) (hlc : l.length ≤ c) (pl : Pats l) (h1 : Kd.C (Kd.int .i32) w A1 l1.length l1) (h1c : l1.length ≤ c1) (p1 : ∀ r ∈ l1, In32 r)
    (h2 : Kd.C (Kd.int .i32) w A2 l2.length l2) (h2c : l2.length ≤ c2) (p2 : ∀ r ∈ l2, In32 r) (h3 : Kd.C (Kd.int .i32) w A3 l3.length l3) (h3c : l3.length ≤ c3) (p3 : ∀ r ∈ l3, In32 r) :
    Calls Try.prog 9 #[.slice A l.length c, .slice A1 l1.length c1, .slice A2 l2.length c2, .slice A3 l3.length c3] w fun e w' => e = .returned (.bool true) ∧ Below w.heap.size w w' := by
  have HL := Aside0.mk hl
  have HLc := Aside0.mk hlc
  have H1 := Aside0.mk h1
  have H1c := Aside0.mk h1c
  have H2 := Aside0.mk h2
  have H2c := Aside0.mk h2c
  have H3 := Aside0.mk h3
  have H3c := Aside0.mk h3c
  have HF : Aside0 (Fit (Sm.small true l) ∧ (Sm.small true l).length ≤ 40) := ⟨small_fit true l pl, Sm.smallTo_len true l 40⟩
  have HD1 : Aside0 (Word (Lf.word true l1) ∧ (Lf.word true l1).length ≤ 60) := ⟨word_fit true l1 p1, word_len _ _⟩
  have HD2 : Aside0 (Word (Lf.word true l2) ∧ (Lf.word true l2).length ≤ 60) := ⟨word_fit true l2 p2, word_len _ _⟩
  have HD3 : Aside0 (Word (Lf.word true l3) ∧ (Lf.word true l3).length ≤ 60) := ⟨word_fit true l3 p3, word_len _ _⟩
  clear hl hlc h1 h1c h2 h2c h3 h3c pl p1 p2 p3
  go_enter Try.func9, Try.ntmps9
  go_wp2_with (first
    | ((with_reducible refine gate_callee (f := 16) rfl ?_); (refine goesL_ (some 20) rfl rfl Try.func16 (by kernel_rfl) rfl #[] rfl (by (try simp only [List.map_toArray, List.map_cons, List.map_nil]); first | done | rfl) ?_; refine (awake_calls _).mono ?_; rintro e w1 ⟨rfl, hb⟩; refine ⟨_, rfl, ?_⟩; replace HL := Aside0.mk (Kd.C_below HL.out hb); replace H1 := Aside0.mk (Kd.C_below H1.out hb); replace H2 := Aside0.mk (Kd.C_below H2.out hb); replace H3 := Aside0.mk (Kd.C_below H3.out hb); have HB := Aside0.mk hb; clear hb))
    | ((with_reducible refine gate_callee (f := 17) rfl ?_); (refine goesL_ (some 23) rfl rfl Try.func17 (by kernel_rfl) rfl #[.slice A l.length c, .bool true] rfl (by (try simp only [List.map_toArray, List.map_cons, List.map_nil]); first | done | rfl) ?_; refine (Sm.small_calls true l A c _ HL.out HLc.out).mono ?_; rintro e w2 ⟨v_, rfl, hr_, hb⟩; refine ⟨_, rfl, ?_⟩; replace H1 := Aside0.mk (Kd.C_below H1.out hb); replace H2 := Aside0.mk (Kd.C_below H2.out hb); replace H3 := Aside0.mk (Kd.C_below H3.out hb); replace HB := Aside0.mk (below_step HB.out hb); obtain ⟨A4, c4, hv_, hl_, hc_⟩ := Kd.R_reads hr_; subst hv_; replace HL := Aside0.mk hc_; replace HLc := Aside0.mk hl_; clear hr_ hl_ hc_; generalize Sm.small true l = L at HL HLc HF ⊢; clear hb)))
  go_loopg [9, 25] L.length (fun g v9 v25 w' => ∃ k : Nat, v25 = .int .i64 k ∧ Aside0 (g + k = L.length) ∧ Aside0 (Kd.N k39 39 w' w2.heap.size (fun _ => True) v9 (plainTo L k)) ∧ Aside0 (Below w2.heap.size w2 w'))
  case atStart => exact ⟨0, rfl, ⟨rfl⟩, ⟨Kd.N_nil _ _ _ _ _⟩, ⟨Below.refl _ _⟩⟩
  case round =>
    obtain ⟨k, rfl, HG, HO, HBl⟩ := hrel
    have hlc4 : L.length ≤ 40 := HF.out.2
    by_cases hk : k < L.length
    · have p1 : (0 : Int) ≤ (k : Int) := by omega
      have q1 : (k : Int) < (L.length : Int) := by omega
      obtain ⟨ad, A0, c0, A1', c1', e1, hx0, hx1, hl0, hi0, hl1, hi1⟩ := at_T39 HL.out (k : Int) p1 q1
      subst e1
      replace hx0 := (HBl.out.cell (World.block_lt_of_cell? w2 _ hx0)).trans hx0
      replace hx1 := (HBl.out.cell (World.block_lt_of_cell? w2 _ hx1)).trans hx1
      simp only [Int.toNat_natCast] at hx0 hx1
      obtain ⟨p, hp⟩ : ∃ p, rd_T39 L (k : Int) = p := ⟨_, rfl⟩
      rw [hp] at hx0 hx1 hl0 hi0 hl1 hi1
      have HP := Aside0.mk hp
      have HFK := Aside0.mk (k39_mkF w2 (fun b => b < w2.heap.size) p hl0 (Kd.C_F (Kd.heap_int .i32) hi0) hl1 (Kd.C_F (Kd.heap_int .u8) hi1))
      have hpm : p.f0.length ≤ 1000 ∧ p.f1.length ≤ 1000 := hp ▸ ⟨(HF.out.1.2 _ (rd_T39_mem L k hk)).1, (HF.out.1.2 _ (rd_T39_mem L k hk)).2.1⟩
      clear hp
      have HR0 := Aside0.mk hi0
      clear hi0 hl0 hi1 hl1
      go_wp2_with fail
      obtain ⟨wo, rfl⟩ : ∃ wo : World, wo = wr := ⟨_, rfl⟩
      go_loopg [12, 32] p.f0.length (fun g v12 v32 w' => ∃ j : Nat, v32 = .int .i64 j ∧ v12 = .bool (dotsB (p.f0.take j)) ∧ Aside0 (g + j = p.f0.length) ∧ Aside0 (w'.heap[wo.heap.size]? = some (.cells #[.slice A0 p.f0.length c0, .slice A1' p.f1.length c1'] 39 (0, 0))) ∧ Aside0 (Below wo.heap.size wo w'))
      case atStart => exact ⟨0, rfl, rfl, ⟨rfl⟩, ⟨blk_new _ _⟩, ⟨below_alloc (Below.refl _ _) _⟩⟩
      case round =>
        obtain ⟨j, rfl, rfl, HG2, HPB, HB2⟩ := hrel
        by_cases hj : j < p.f0.length
        · obtain ⟨ad2, e2, hx2⟩ := Kd.at_int HR0.out (j : Int) (by omega) (by omega)
          subst e2
          simp only [Int.toNat_natCast] at hx2
          have hx3 : wr.cell? (ad2.add j) = some (.int .i32 (rd p.f0 (j : Int))) := (HB2.out.cell (World.block_lt_of_cell? wo _ ((HBl.out.cell (World.block_lt_of_cell? w2 _ hx2)).trans hx2))).trans ((HBl.out.cell (World.block_lt_of_cell? w2 _ hx2)).trans hx2)
          have hds := dotsB_succ p.f0 j hj
          obtain ⟨r, hr⟩ : ∃ r, rd p.f0 (j : Int) = r := ⟨_, rfl⟩
          rw [hr] at hx3 hds
          clear hr hx2
          obtain ⟨b, hb⟩ : ∃ b, dotsB (p.f0.take j) = b := ⟨_, rfl⟩
          rw [hb] at hds ⊢
          have HDS := Aside0.mk hds
          clear hb hds
          have p2 : (0 : Int) ≤ (j : Int) := by omega
          have q2 : (j : Int) < (p.f0.length : Int) := by omega
          cases b with
          | true =>
            go_wp2_with fail
            go_roundg (p.f0.length - (j + 1))
            case measure => have := HG2.out; omega
            case rel => exact ⟨j + 1, by go_num, by rw [HDS.out]; rfl, ⟨by omega⟩, HPB, HB2⟩
          | false =>
            go_wp2_with fail
            go_roundg (p.f0.length - (j + 1))
            case measure => have := HG2.out; omega
            case rel => exact ⟨j + 1, by go_num, by rw [HDS.out, Bool.false_or]; rfl, ⟨by omega⟩, HPB, HB2⟩
        · have hje : j = p.f0.length := by have := HG2.out; omega
          subst hje
          have hq0 : wr.cell? ⟨wo.heap.size, 0, none⟩ = some (.slice A0 p.f0.length c0) := by rw [blk_cell HPB.out 0]; rfl
          have hq1 : wr.cell? ⟨wo.heap.size, 1, none⟩ = some (.slice A1' p.f1.length c1') := by rw [blk_cell HPB.out 1]; rfl
          rw [List.take_length]
          have hpb : plainB p = (!(dotsB p.f0) && decide (0 < p.f0.length) && decide (p.f1.length ≤ p.f0.length + 1)) := rfl
          obtain ⟨b, hb⟩ : ∃ b, dotsB p.f0 = b := ⟨_, rfl⟩
          rw [hb] at hpb ⊢
          have HPP := Aside0.mk hpb
          clear hb hpb HG2
          have HO2 := Aside0.mk (Kd.N_below HO.out HB2.out)
          have HB3 := Aside0.mk (below_step HBl.out HB2.out)
          cases b with
          | true =>
            go_wp2_with fail
            go_roundg (L.length - (k + 1))
            case measure => have := HG.out; omega
            case rel => exact ⟨k + 1, by go_num, ⟨by omega⟩, ⟨by rw [plainTo_no hk HP.out (by rw [HPP.out]; rfl)]; exact HO2.out⟩, HB3⟩
          | false =>
            by_cases hz : 0 < p.f0.length
            · have hz1 : decide ((0 : Int) < (p.f0.length : Int)) = true := decide_eq_true (by omega)
              by_cases hv : p.f1.length ≤ p.f0.length + 1
              · have hv1 : decide ((p.f1.length : Int) ≤ (p.f0.length : Int) + 1) = true := decide_eq_true (by omega)
                have hpl := plainTo_len L k
                go_wp2_with (first | ((with_reducible refine gate_builtin (b := .append) (xs := #[.tmp 60, .tmp 62]) rfl ?_); at_builtin; (refine Kd.N_append k39 (w0 := w2) w2.heap.size rfl (.tmp 60) (.tmp 62) 22 39 (.agg #[.slice none 0 0, .slice none 0 0]) 48 rfl Try.underlying22 info39 rfl (by decide) (by decide) u9 (plainTo L k) p [.slice A0 p.f0.length c0, .slice A1' p.f1.length c1'] (fun _ => True) (fun b => b < w2.heap.size) rfl rfl (Kd.FK_below HFK.out HB3.out) (fun b hb => ⟨trivial, fun e => by have := Kd.N_base HO2.out b e.symm; omega⟩) (fun _ _ => trivial) HO2.out HB3.out (below_size HB3.out) (by omega) ?_; intro v3 w3 ho3 hb3 hg3 hat3; clear hat3 hg3; have HO3 := Aside0.mk ho3; have HB4 := Aside0.mk hb3; clear ho3 hb3)))
                go_roundg (L.length - (k + 1))
                case measure => have := HG.out; omega
                case rel => exact ⟨k + 1, by go_num, ⟨by omega⟩, ⟨by rw [plainTo_yes hk HP.out (by rw [HPP.out]; simp [hz, hv])]; exact HO3.out⟩, HB4⟩
              · have hv1 : decide ((p.f1.length : Int) ≤ (p.f0.length : Int) + 1) = false := decide_eq_false (by omega)
                go_wp2_with fail
                go_roundg (L.length - (k + 1))
                case measure => have := HG.out; omega
                case rel => exact ⟨k + 1, by go_num, ⟨by omega⟩, ⟨by rw [plainTo_no hk HP.out (by rw [HPP.out]; simp [hv])]; exact HO2.out⟩, HB3⟩
            · have hz1 : decide ((0 : Int) < (p.f0.length : Int)) = false := decide_eq_false (by omega)
              go_wp2_with fail
              go_roundg (L.length - (k + 1))
              case measure => have := HG.out; omega
              case rel => exact ⟨k + 1, by go_num, ⟨by omega⟩, ⟨by rw [plainTo_no hk HP.out (by rw [HPP.out]; simp [hz])]; exact HO2.out⟩, HB3⟩
    · obtain ⟨AP, cP, hv9, hl9, hc9⟩ := Kd.N_reads HO.out
      subst hv9
      have HPF := Aside0.mk (plain_fit HF.out.1 k)
      have HVS : Aside0 (∀ (a w b : List Int) (i : Nat), i < w.length + 1 → rd (values (make ((plainTo L k).map pq)) w) (i : Int) ≤ rd (values (make ((plainTo L k).map pq)) (a ++ w ++ b)) ((a.length : Int) + (i : Int))) := ⟨vals_shift HF.out.1 k⟩
      have HP := Aside0.mk hc9
      have HPc := Aside0.mk hl9
      clear hc9 hl9 HG HO
      generalize plainTo L k = PL at HPF HP HPc HVS ⊢
      replace H1 := Aside0.mk (Kd.C_below H1.out HBl.out)
      replace H2 := Aside0.mk (Kd.C_below H2.out HBl.out)
      replace H3 := Aside0.mk (Kd.C_below H3.out HBl.out)
      replace HB := Aside0.mk (below_step HB.out HBl.out)
      have HD2' : Aside0 (Word (Lf.word true l2)) := ⟨HD2.out.1⟩
      clear HL HLc HF HBl
      go_wp2_with (first
        | ((with_reducible refine gate_callee (f := 18) rfl ?_); (refine goesL_ (some 66) rfl rfl Try.func18 (by kernel_rfl) rfl #[.slice A1 l1.length c1, .bool true] rfl (by (try simp only [List.map_toArray, List.map_cons, List.map_nil]); first | done | rfl) ?_; refine (Lf.word_calls A1 c1 l1 true _ H1.out H1c.out).mono ?_; rintro e w5 ⟨v_, rfl, hr_, hb⟩; refine ⟨_, rfl, ?_⟩; replace HP := Aside0.mk (Kd.C_below HP.out hb); replace H2 := Aside0.mk (Kd.C_below H2.out hb); replace H3 := Aside0.mk (Kd.C_below H3.out hb); replace HB := Aside0.mk (below_step HB.out hb); obtain ⟨A5, c5, hv_, hl_, hc_⟩ := Kd.R_reads hr_; subst hv_; replace H1 := Aside0.mk hc_; replace H1c := Aside0.mk hl_; clear hr_ hl_ hc_; generalize Lf.word true l1 = D1 at H1 H1c HD1 ⊢; clear hb); have hd1 := HD1.out.2)
        | ((with_reducible refine gate_callee (f := 18) rfl ?_); (refine goesL_ (some 68) rfl rfl Try.func18 (by kernel_rfl) rfl #[.slice A2 l2.length c2, .bool true] rfl (by (try simp only [List.map_toArray, List.map_cons, List.map_nil]); first | done | rfl) ?_; refine (Lf.word_calls A2 c2 l2 true _ H2.out H2c.out).mono ?_; rintro e w6 ⟨v_, rfl, hr_, hb⟩; refine ⟨_, rfl, ?_⟩; replace HP := Aside0.mk (Kd.C_below HP.out hb); replace H1 := Aside0.mk (Kd.C_below H1.out hb); replace H3 := Aside0.mk (Kd.C_below H3.out hb); replace HB := Aside0.mk (below_step HB.out hb); obtain ⟨A6, c6, hv_, hl_, hc_⟩ := Kd.R_reads hr_; subst hv_; replace H2 := Aside0.mk hc_; replace H2c := Aside0.mk hl_; clear hr_ hl_ hc_; generalize Lf.word true l2 = D2 at H2 H2c HD2 HD2' ⊢; clear hb); have hd2 := HD2.out.2)
        | ((with_reducible refine gate_callee (f := 18) rfl ?_); (refine goesL_ (some 70) rfl rfl Try.func18 (by kernel_rfl) rfl #[.slice A3 l3.length c3, .bool true] rfl (by (try simp only [List.map_toArray, List.map_cons, List.map_nil]); first | done | rfl) ?_; refine (Lf.word_calls A3 c3 l3 true _ H3.out H3c.out).mono ?_; rintro e w7 ⟨v_, rfl, hr_, hb⟩; refine ⟨_, rfl, ?_⟩; replace HP := Aside0.mk (Kd.C_below HP.out hb); replace H1 := Aside0.mk (Kd.C_below H1.out hb); replace H2 := Aside0.mk (Kd.C_below H2.out hb); replace HB := Aside0.mk (below_step HB.out hb); obtain ⟨A7, c7, hv_, hl_, hc_⟩ := Kd.R_reads hr_; subst hv_; replace H3 := Aside0.mk hc_; replace H3c := Aside0.mk hl_; clear hr_ hl_ hc_; generalize Lf.word true l3 = D3 at H3 H3c HD3 ⊢; clear hb); have hd3 := HD3.out.2)
        | ((with_reducible refine gate_callee (f := 19) rfl ?_); (refine goesL_ (some 72) rfl rfl Try.func19 (by kernel_rfl) rfl #[.slice AP PL.length cP] rfl (by (try simp only [List.map_toArray, List.map_cons, List.map_nil]); first | done | rfl) ?_; refine (make_fit PL AP cP _ HP.out HPc.out HPF.out).mono ?_; rintro e w8 ⟨bt, rfl, hT_, hb⟩; refine ⟨_, rfl, ?_⟩; replace HP := Aside0.mk (Kd.C_below HP.out hb); replace H1 := Aside0.mk (Kd.C_below H1.out hb); replace H2 := Aside0.mk (Kd.C_below H2.out hb); replace H3 := Aside0.mk (Kd.C_below H3.out hb); replace HB := Aside0.mk (below_step HB.out hb); have HT := Aside0.mk hT_; clear hT_; clear hb))
        | ((with_reducible refine gate_callee (f := 20) rfl ?_); (refine goesL_ (some 75) rfl rfl Try.func20 (by kernel_rfl) rfl #[.pointer (some ⟨bt, 0, none⟩), .slice A6 D2.length c6] rfl (by (try simp only [List.map_toArray, List.map_cons, List.map_nil]); first | done | rfl) ?_; refine (values_fit PL _ bt A6 c6 D2 _ HT.out H2.out H2c.out HPF.out HD2'.out).mono ?_; rintro e w9 ⟨v_, rfl, hr_, hb⟩; refine ⟨_, rfl, ?_⟩; replace HP := Aside0.mk (Kd.C_below HP.out hb); replace H1 := Aside0.mk (Kd.C_below H1.out hb); replace H2 := Aside0.mk (Kd.C_below H2.out hb); replace H3 := Aside0.mk (Kd.C_below H3.out hb); replace HB := Aside0.mk (below_step HB.out hb); replace HT := Aside0.mk (HT.out.below hb); obtain ⟨X, hx_⟩ : ∃ X, values (make (List.map pq PL)) D2 = X := ⟨_, rfl⟩; rw [hx_] at hr_; have hXl : X.length = D2.length + 1 := (by rw [← hx_]; exact values_length _ _); have HXe := Aside0.mk hx_; obtain ⟨A9, c9, hv_, _, hc_⟩ := Kd.R_reads hr_; subst hv_; have HX := Aside0.mk hc_; clear hr_ hc_ hx_; clear hb))
        | ((with_reducible refine gate_dst (N := 77) rfl ?_); (refine Kd.R_lit (Kd.int .i32) (w0 := w9) w9.heap.size 21 ?hg (N := 77) ?hd (xs := ([] : List Int)) (inner := []) (ok := fun _ => True) (okp := fun _ => True) ?hr ?hp (fun _ hk => hk) trivial (Below.refl _ _) (Nat.le_refl _) (by simp) ?_; (case hd => rfl); (case hg => rfl); (case hr => first | (go_simp; done) | (go_simp; rfl)); (case hp => exact Reps.none _ _); intro v77 w77 hn_ hb_ hg_ hat_; have HN := Aside0.mk hn_; have HBn := Aside0.mk hb_; clear hn_ hb_ hg_ hat_))
        | ((with_reducible refine gate_builtin (b := .append) (xs := #[.tmp 77, .tmp 78]) rfl ?_); at_builtin; (refine Kd.R_append_rows (Kd.int .i32) (w0 := w9) w9.heap.size rfl (.tmp 77) (.tmp 78) 23 21 (.int .i32 0) 4 rfl Try.underlying23 info21 rfl (by decide) (by decide) v77 [] D1 A5 D1.length c5 (fun _ => True) (fun _ => False) rfl rfl HN.out (Kd.C_below H1.out HBn.out) (fun _ _ h => h) (fun _ h => h.elim) (fun _ _ => trivial) HBn.out (below_size HBn.out) (by simp; omega) ?_; intro v79 w79 hn_ hb_ hg_ hat_; clear hg_ hat_; replace HN := Aside0.mk hn_; replace HBn := Aside0.mk hb_; clear hn_ hb_))
        | ((with_reducible refine gate_builtin (b := .append) (xs := #[.tmp 79, .tmp 80]) rfl ?_); at_builtin; (refine Kd.R_append_rows (Kd.int .i32) (w0 := w9) w9.heap.size rfl (.tmp 79) (.tmp 80) 23 21 (.int .i32 0) 4 rfl Try.underlying23 info21 rfl (by decide) (by decide) v79 ([] ++ D1) D2 A6 D2.length c6 (fun _ => True) (fun _ => False) rfl rfl HN.out (Kd.C_below H2.out HBn.out) (fun _ _ h => h) (fun _ h => h.elim) (fun _ _ => trivial) HBn.out (below_size HBn.out) (by simp; omega) ?_; intro v81 w81 hn_ hb_ hg_ hat_; clear hg_ hat_; replace HN := Aside0.mk hn_; replace HBn := Aside0.mk hb_; clear hn_ hb_))
        | ((with_reducible refine gate_builtin (b := .append) (xs := #[.tmp 81, .tmp 82]) rfl ?_); at_builtin; (refine Kd.R_append_rows (Kd.int .i32) (w0 := w9) w9.heap.size rfl (.tmp 81) (.tmp 82) 23 21 (.int .i32 0) 4 rfl Try.underlying23 info21 rfl (by decide) (by decide) v81 ([] ++ D1 ++ D2) D3 A7 D3.length c7 (fun _ => True) (fun _ => False) rfl rfl HN.out (Kd.C_below H3.out HBn.out) (fun _ _ h => h) (fun _ h => h.elim) (fun _ _ => trivial) HBn.out (below_size HBn.out) (by simp; omega) ?_; intro v83 w83 hn_ hb_ hg_ hat_; clear hg_ hat_; have hb := hb_; replace HP := Aside0.mk (Kd.C_below HP.out hb); replace H1 := Aside0.mk (Kd.C_below H1.out hb); replace H2 := Aside0.mk (Kd.C_below H2.out hb); replace H3 := Aside0.mk (Kd.C_below H3.out hb); replace HB := Aside0.mk (below_step HB.out hb); replace HT := Aside0.mk (HT.out.below hb); replace HX := Aside0.mk (Kd.C_below HX.out hb); obtain ⟨A10, c10, hv_, hl_, hc_⟩ := Kd.R_reads hn_; subst hv_; rw [List.nil_append] at hl_ hc_ ⊢; obtain ⟨DD, hdd⟩ : ∃ DD, D1 ++ D2 ++ D3 = DD := ⟨_, rfl⟩; rw [hdd] at hl_ hc_ ⊢; have HW := Aside0.mk hc_; have HWc := Aside0.mk hl_; have HDD := Aside0.mk hdd; have HDW : Aside0 (Word DD) := ⟨hdd ▸ word3 HD1.out HD2.out HD3.out⟩; clear hb_ hb hn_ hl_ hc_ hdd HBn HN))
        | ((with_reducible refine gate_callee (f := 20) rfl ?_); (refine goesL_ (some 84) rfl rfl Try.func20 (by kernel_rfl) rfl #[.pointer (some ⟨bt, 0, none⟩), .slice A10 DD.length c10] rfl (by (try simp only [List.map_toArray, List.map_cons, List.map_nil]); first | done | rfl) ?_; refine (values_fit PL _ bt A10 c10 DD _ HT.out HW.out HWc.out HPF.out HDW.out).mono ?_; rintro e w11 ⟨v_, rfl, hr_, hb⟩; refine ⟨_, rfl, ?_⟩; replace HP := Aside0.mk (Kd.C_below HP.out hb); replace H1 := Aside0.mk (Kd.C_below H1.out hb); replace H2 := Aside0.mk (Kd.C_below H2.out hb); replace H3 := Aside0.mk (Kd.C_below H3.out hb); replace HB := Aside0.mk (below_step HB.out hb); replace HX := Aside0.mk (Kd.C_below HX.out hb); replace HW := Aside0.mk (Kd.C_below HW.out hb); obtain ⟨Y, hx_⟩ : ∃ X, values (make (List.map pq PL)) DD = X := ⟨_, rfl⟩; rw [hx_] at hr_; have hYl : Y.length = DD.length + 1 := (by rw [← hx_]; exact values_length _ _); have HYe := Aside0.mk hx_; obtain ⟨A11, c11, hv_, _, hc_⟩ := Kd.R_reads hr_; subst hv_; have HY := Aside0.mk hc_; clear hr_ hc_ hx_; clear hb; clear HT)))
      have hdl : DD.length = D1.length + D2.length + D3.length := by rw [← HDD.out, List.length_append, List.length_append]
      go_loopg [18, 19, 87] (D2.length + 1) (fun g v18 v19 v87 w' => ∃ i : Nat, v87 = .int .i64 i ∧ Aside0 (g + i = D2.length + 1) ∧ w' = w11)
      case atStart => exact ⟨0, rfl, ⟨rfl⟩, rfl⟩
      case round =>
        obtain ⟨i, rfl, HG, rfl⟩ := hrel
        by_cases hi : i < D2.length + 1
        · obtain ⟨ax, ex, hx⟩ := Kd.at_int HX.out (i : Int) (by omega) (by omega)
          obtain ⟨ay, ey, hy⟩ := Kd.at_int HY.out ((D1.length : Int) + (i : Int)) (by omega) (by omega)
          subst ex ey
          have hle : rd X (i : Int) ≤ rd Y ((D1.length : Int) + (i : Int)) := by
            have := HVS.out D1 D2 D3 i hi
            rw [HDD.out, HXe.out, HYe.out] at this
            exact this
          generalize rd X (i : Int) = x at hx hle
          generalize rd Y ((D1.length : Int) + (i : Int)) = y at hy hle
          have hlt : decide (y < x) = false := decide_eq_false (by omega)
          rw [show ((D1.length : Int) + (i : Int)).toNat = D1.length + i by omega] at hy
          rw [Int.toNat_natCast] at hx
          have p1 : (0 : Int) ≤ (i : Int) := by omega
          have p2 : (0 : Int) ≤ (D1.length : Int) + (i : Int) := by omega
          have q2 : (D1.length : Int) + (i : Int) < (Y.length : Int) := by omega
          clear hle
          go_wp2_with fail
          go_roundg (D2.length + 1 - (i + 1))
          case measure => have := HG.out; omega
          case rel => exact ⟨i + 1, by go_num, ⟨by omega⟩, rfl⟩
        · have hie : i = D2.length + 1 := by have := HG.out; omega
          subst hie
          clear HG hi
          go_wp2_with fail
          go_ret
          exact ⟨rfl, HB.out⟩
end Go.Proofs.Ytoefjhdcipgacaa.Tr
