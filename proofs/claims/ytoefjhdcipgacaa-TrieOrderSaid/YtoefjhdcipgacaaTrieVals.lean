/-
  The trie's Values and Size answer what the plain model answers.
-/
import Derived.Test.YtoefjhdcipgacaaTrieMake
namespace Go.Proofs.Ytoefjhdcipgacaa.Tr
open Go.RowKit Go.Proofs.YtoefjhdcipgacaaW.PrintWords Go.Proofs.YtoefjhdcipgacaaW.PrintLast Go.Proofs.YtoefjhdcipgacaaW.PrintMore
open Go.Proofs.Ytoefjhdcipgacaa.PA
attribute [local go_sem] max2_int min2_int max_two min_two

def zeros (word : List Int) : List Int := List.replicate (word.length + 1) 0
def wholeOf (word : List Int) : List Int := 46 :: word ++ [46]
theorem zeros_eq (word : List Int) : List.replicate ((word.length : Int) + 1).toNat (0 : Int) = zeros word := by
  unfold zeros; congr 1
theorem zeros_pos (word : List Int) : 0 < (zeros word).length := by simp [zeros]
theorem zeros_length (word : List Int) : (zeros word).length = word.length + 1 := by simp [zeros]
theorem whole_eq (word : List Int) : [46] ++ word ++ [46] = wholeOf word := rfl
theorem whole_length (word : List Int) : (wholeOf word).length = word.length + 2 := by simp [wholeOf]

theorem bump_hit {O V : List Int} {s q : Nat} (h1 : 1 ≤ s + q) {n : Nat} (hl : (bumpTo O V s q).length = n) (h2 : s + q - 1 < n) {x v y : Int} (hx : rdOf (0 : Int) (bumpTo O V s q) ((s + q - 1 : Nat) : Int) = x) (hv : rd V (q : Int) = v) (hy : y = max x v) :
    bumpTo O V s (q + 1) = (bumpTo O V s q).set (s + q - 1) y := by
  rw [bumpTo_succ]
  unfold bumpAt
  rw [if_pos ⟨h1, by omega⟩, hy, ← hx, ← hv]
  simp [rd, rdOf]
theorem bump_miss {O V : List Int} {s q n : Nat} (hl : (bumpTo O V s q).length = n) (h : s + q = 0 ∨ n ≤ s + q - 1) : bumpTo O V s (q + 1) = bumpTo O V s q := by
  rw [bumpTo_succ]
  unfold bumpAt
  rw [if_neg]
  intro h1
  omega
theorem out_put {W : World} {base g cap n d : Nat} {ok : Nat → Prop} {ys : List Int} (h : Kd.R (Kd.int .u8) 5 W base ok (.slice (some ⟨g, 0, none⟩) ys.length cap) ys) (hn : ys.length = n) (y : Int) :
    Kd.R (Kd.int .u8) 5 (W.setCell ⟨g, d, none⟩ (.int .u8 y)) base ok (.slice (some ⟨g, 0, none⟩) n cap) (ys.set d y) := by
  subst hn
  have := (Kd.R_put h (d : Int) y).1
  simp only [Int.toNat_natCast] at this
  exact this
theorem bump_round {W : World} {base g cap n s q : Nat} {ok : Nat → Prop} {O V : List Int} (h : Kd.R (Kd.int .u8) 5 W base ok (.slice (some ⟨g, 0, none⟩) n cap) (bumpTo O V s q)) (h1 : 1 ≤ s + q) (hl : (bumpTo O V s q).length = n) (h2 : s + q - 1 < n) {x v y : Int}
    (hx : rdOf (0 : Int) (bumpTo O V s q) ((s + q - 1 : Nat) : Int) = x) (hv : rd V (q : Int) = v) (hy : y = max x v) :
    Kd.R (Kd.int .u8) 5 (W.setCell ⟨g, s + q - 1, none⟩ (.int .u8 y)) base ok (.slice (some ⟨g, 0, none⟩) n cap) (bumpTo O V s (q + 1)) := by
  rw [bump_hit h1 hl h2 hx hv hy]
  exact out_put (hl ▸ h) hl y
theorem whole_put {W : World} {base base' g cap n d : Nat} {ok ok' : Nat → Prop} {ys zs : List Int} {v : Value} (hw : Kd.R (Kd.int .i32) 21 W base' ok' v zs) (h : Kd.R (Kd.int .u8) 5 W base ok (.slice (some ⟨g, 0, none⟩) n cap) ys) (y : Int) :
    Kd.R (Kd.int .i32) 21 (W.setCell ⟨g, d, none⟩ (.int .u8 y)) base' ok' v zs := by
  obtain ⟨inner, ho⟩ := Kd.R_own h
  obtain ⟨cells, hc⟩ := own_typed ho g rfl
  exact Kd.R_set hw hc (by decide) d _
theorem run_end {T : TM} {s i j : Nat} {O WL X : List Int} (h : T.run s O (WL.drop j) i = X) (hj : WL.length ≤ j) : bump O (T.vals i) s = X := by
  rw [List.drop_of_length_le hj] at h
  exact h
theorem run_some {T : TM} {s i j m : Nat} {O WL X : List Int} (h : T.run s O (WL.drop j) i = X) (hj : j < WL.length) {r : Int} (hr : rd WL (j : Int) = r) (hm : T.next i r = some m) : T.run s (bump O (T.vals i) s) (WL.drop (j + 1)) m = X := by
  rw [List.drop_eq_getElem_cons hj] at h
  have : WL[j] = r := by rw [← hr]; simp [rd, List.getD_eq_getElem?_getD, List.getElem?_eq_getElem hj]
  rw [this] at h
  unfold TM.run at h
  rwa [hm] at h
theorem run_none {T : TM} {s i j : Nat} {O WL X : List Int} (h : T.run s O (WL.drop j) i = X) (hj : j < WL.length) {r : Int} (hr : rd WL (j : Int) = r) (hm : T.next i r = none) : bump O (T.vals i) s = X := by
  rw [List.drop_eq_getElem_cons hj] at h
  have : WL[j] = r := by rw [← hr]; simp [rd, List.getD_eq_getElem?_getD, List.getElem?_eq_getElem hj]
  rw [this] at h
  unfold TM.run at h
  rwa [hm] at h

set_option maxHeartbeats 4000000 in
set_option maxRecDepth 100000 in
theorem values_calls (base bt : Nat) (T : TM) (A : Option Addr) (c : Nat) (word : List Int) (w : World) (hT : TrieAt w base bt T) (hr : Kd.C (Kd.int .i32) w A word.length word) (hc : word.length ≤ c) (h32 : ∀ r ∈ word, In32 r) (hn : word.length ≤ 1099511627776) (hv : ∀ i, (T.vals i).length ≤ 1099511627776) :
    Calls Try.prog 20 #[.pointer (some ⟨bt, 0, none⟩), .slice A word.length c] w fun e w' => ∃ v, e = .returned v ∧ Kd.R (Kd.int .u8) 5 w' w.heap.size (fun _ => True) v (values T word) ∧ Below w.heap.size w w' := by
  have HR := Aside0.mk hr
  have HC := Aside0.mk hc
  have H32 := Aside0.mk h32
  have HV := Aside0.mk hv
  obtain ⟨bn, cap, K, xs, ms, vs, _, hT⟩ := hT
  have HT := Aside0.mk hT
  clear hr hc h32 hv hT
  go_enter Try.func20, Try.ntmps20
  go_wp2_with (first | (at_make; (refine Kd.R_make (Kd.int .u8) (w0 := w) w.heap.size 5 rfl (N := 18) rfl 27 (.tmp 17) (.tmp 17) rfl ((word.length : Int) + 1) rfl rfl Try.underlying27 (.int .u8 0) 1 info5 rfl (by decide) (by decide) (0 : Int) (ok := fun _ => True) (okp := fun _ => False) rfl (fun _ h => h.elim) trivial (by omega) (by omega) (Below.refl _ _) (Nat.le_refl _) ?_; intro v1 w1 ho1 hb1 hg1 hn1; clear hg1 hn1; rw [zeros_eq] at ho1; obtain ⟨go_, cap1, hv1, _, _, _⟩ := Kd.R_form ho1 (zeros_pos word); rw [hv1] at ho1 ⊢; have HO1 := Aside0.mk ho1; have HB1 := Aside0.mk hb1; clear ho1 hb1 hv1)) | ((with_reducible refine gate_dst (N := 22) rfl ?_); (refine Kd.R_lit (Kd.int .i32) (w0 := w) w.heap.size 21 ?hg (N := 22) ?hd (xs := ([46] : List Int)) (inner := [.int .i32 46]) (ok := fun _ => True) (okp := fun _ => True) ?hr ?hp (fun _ hk => hk) trivial HB1.out (below_size HB1.out) (by simp) ?_; (case hd => rfl); (case hg => rfl); (case hr => first | (go_simp; done) | (go_simp; rfl)); (case hp => exact (Reps.one (show Kd.M (Kd.int .i32) _ _ _ 46 [.int .i32 46] from rfl) (Reps.none _ _))); intro v2 w2 ho2 hb2 hg2 hn2; clear hn2; have HO1a := Aside0.mk (Kd.R_grown HO1.out hg2 (fun k_ _ => by simp)); have HO2 := Aside0.mk ho2; have HB2 := Aside0.mk hb2; clear ho2 hb2 hg2)) | ((with_reducible refine gate_builtin (b := .append) (xs := #[.tmp 22, .tmp 23]) rfl ?_); at_builtin; (refine Kd.R_append_rows (Kd.int .i32) (w0 := w) w.heap.size rfl (.tmp 22) (.tmp 23) 23 21 (.int .i32 0) 4 rfl Try.underlying23 info21 rfl (by decide) (by omega) v2 [46] word _ _ _ (fun _ => True) (fun _ => False) rfl rfl HO2.out (Kd.C_below HR.out HB2.out) (fun _ _ h => h) (fun _ h => h.elim) (fun _ _ => trivial) HB2.out (below_size HB2.out) (by simp; omega) ?_; intro v3 w3 ho3 hb3 hg3 hat3; clear hat3; have HO1b := Aside0.mk (Kd.R_over HO1a.out HO2.out (by decide) hg3); have HO3 := Aside0.mk ho3; have HB3 := Aside0.mk hb3; clear ho3 hb3 hg3)) | ((with_reducible refine gate_builtin (b := .append) (xs := #[.tmp 24, .tmp 25]) rfl ?_); at_builtin; (refine Kd.R_append (Kd.int .i32) (w0 := w) w.heap.size rfl (.tmp 24) (.tmp 25) 23 21 (.int .i32 0) 4 rfl Try.underlying23 info21 rfl (by decide) (by omega) v3 ([46] ++ word) 46 [.int .i32 46] (fun _ => True) (fun _ => False) rfl rfl rfl (fun _ hk => hk.elim) (fun _ _ => trivial) HO3.out HB3.out (below_size HB3.out) (by simp; omega) ?_; intro v4 w4 ho4 hb4 hg4 hat4; clear hat4; have HO1c := Aside0.mk (Kd.R_over HO1b.out HO3.out (by decide) hg4); rw [whole_eq] at ho4; obtain ⟨A4, c4, hv4⟩ := Kd.R_slice ho4; rw [hv4] at ho4 ⊢; have HO4 := Aside0.mk ho4; have HB4 := Aside0.mk hb4; clear ho4 hb4 hg4 hv4)))
  obtain ⟨Z, hZ⟩ : ∃ Z, zeros word = Z := ⟨_, rfl⟩
  obtain ⟨WL, hWL⟩ : ∃ WL, wholeOf word = WL := ⟨_, rfl⟩
  have hwl : WL.length = word.length + 2 := by rw [← hWL]; exact whole_length word
  have hzl : Z.length = word.length + 1 := by rw [← hZ]; exact zeros_length word
  rw [hZ] at HO1c ⊢
  rw [hWL] at HO4 ⊢
  have HZ := Aside0.mk hZ
  have HWL := Aside0.mk hWL
  have HWN := Aside0.mk hwl
  have HZN := Aside0.mk hzl
  have hwn : WL.length ≤ 1099511627778 := by omega
  clear hZ hWL hwl hzl HO1 HO1a HO1b HO2 HO3 HB1 HB2 HB3
  go_loopg [29] WL.length (fun g v29 w' => ∃ k : Nat, v29 = .int .i64 k ∧ Aside0 (g + k = WL.length) ∧ Aside0 (Kd.R (Kd.int .u8) 5 w' w.heap.size (fun _ => True) (.slice (some ⟨go_, 0, none⟩) Z.length cap1) (valuesTo T WL Z k)) ∧ Aside0 (Kd.R (Kd.int .i32) 21 w' w.heap.size (fun _ => True) (.slice A4 WL.length c4) WL) ∧ Aside0 (Below w.heap.size w w'))
  case atStart => exact ⟨0, rfl, ⟨rfl⟩, HO1c, HO4, HB4⟩
  case round =>
    obtain ⟨s, rfl, HG, HO, HW, HB⟩ := hrel
    clear HO1c HO4 HB4
    by_cases hs : s < WL.length
    · go_wp2_with fail
      obtain ⟨O0, hO0⟩ : ∃ O0, valuesTo T WL Z s = O0 := ⟨_, rfl⟩
      have ho0 : O0.length = Z.length := by rw [← hO0]; exact valuesTo_length _ _ _ _
      rw [hO0] at HO
      have HO0 := Aside0.mk hO0
      have HL0 := Aside0.mk ho0
      clear hO0 ho0
      obtain ⟨X, hX⟩ : ∃ X, T.run s O0 (WL.drop s) 0 = X := ⟨_, rfl⟩
      have HXX := Aside0.mk hX
      go_loopg [8, 9] (WL.length + 1) (fun g v8 v9 w' => ∃ (j i : Nat) (O : List Int), v9 = .int .i64 j ∧ v8 = .int .i64 i ∧ Aside0 (i < T.n ∧ j ≤ WL.length ∧ g + j = WL.length + 1 + s ∧ O.length = Z.length) ∧ Aside0 (T.run s O (WL.drop j) i = X) ∧ Aside0 (Kd.R (Kd.int .u8) 5 w' w.heap.size (fun _ => True) (.slice (some ⟨go_, 0, none⟩) Z.length cap1) O) ∧ Aside0 (Kd.R (Kd.int .i32) 21 w' w.heap.size (fun _ => True) (.slice A4 WL.length c4) WL) ∧ Aside0 (Below w.heap.size w w'))
      case atStart => exact ⟨s, 0, O0, rfl, rfl, ⟨HT.out.ok.pos, by omega, by omega, HL0.out⟩, ⟨hX⟩, HO, HW, HB⟩
      case round =>
        clear HO HW HB hX
        obtain ⟨j, i, O, rfl, rfl, HF, HX, HO, HW, HB⟩ := hrel
        have hi := HF.out.1
        have hj := HF.out.2.1
        have hT := HT.out.below HB.out
        have hcT := hT.cellT
        have hcV := hT.cellV hi
        have q3 : (i : Int) < (T.n : Int) := by omega
        obtain ⟨Av, cv, hvs⟩ := own_slice (hT.vo i)
        rw [hvs] at hcV
        have HVS := Aside0.mk hvs
        clear hvs
        go_wp2_with fail
        clear hcV hcT
        have hvl : (T.vals i).length ≤ 1099511627776 := HV.out i
        go_loopg [44] (T.vals i).length (fun g v44 w' => ∃ q : Nat, v44 = .int .i64 q ∧ Aside0 (g + q = (T.vals i).length) ∧ Aside0 (Kd.R (Kd.int .u8) 5 w' w.heap.size (fun _ => True) (.slice (some ⟨go_, 0, none⟩) Z.length cap1) (bumpTo O (T.vals i) s q)) ∧ Aside0 (Kd.R (Kd.int .i32) 21 w' w.heap.size (fun _ => True) (.slice A4 WL.length c4) WL) ∧ Aside0 (Below w.heap.size w w'))
        case atStart => exact ⟨0, rfl, ⟨rfl⟩, HO, HW, HB⟩
        case round =>
          clear HO HW HB hT
          obtain ⟨q, rfl, HG3, HO, HW, HB⟩ := hrel
          have hT := HT.out.below HB.out
          by_cases hq : q < (T.vals i).length
          · have p2 : (0 : Int) ≤ (q : Int) := by omega
            have q2 : (q : Int) < ((T.vals i).length : Int) := by omega
            have hvo := hT.vo i
            rw [HVS.out] at hvo
            obtain ⟨A', c', e', hri⟩ := own_reads hvo
            injection e' with e1 e2 e3
            subst e1 e3
            clear e2
            obtain ⟨ad2, e2, hx2⟩ := hri.at_ (q : Int) p2 q2
            subst e2
            simp only [Int.toNat_natCast] at hx2
            obtain ⟨v, hv⟩ : ∃ v, rd (T.vals i) (q : Int) = v := ⟨_, rfl⟩
            rw [hv] at hx2
            have HVv := Aside0.mk hv
            clear hv hvo hri
            have hbl : (bumpTo O (T.vals i) s q).length = Z.length := by rw [bumpTo_length]; exact HF.out.2.2.2
            have HO' := HO.out
            rw [← hbl] at HO'
            by_cases h1 : 1 ≤ s + q
            · by_cases h2 : s + q - 1 < Z.length
              · have hg1 := (Kd.R_cell (0 : Int) HO' ((s + q - 1 : Nat) : Int) (by omega) (by omega)).1
                have hg2 := (Kd.R_cell (0 : Int) HO' ((s + q - 1 : Nat) : Int) (by omega) (by omega)).2
                simp only [Int.toNat_natCast] at hg1 hg2
                obtain ⟨x, hx⟩ : ∃ x, rdOf (0 : Int) (bumpTo O (T.vals i) s q) ((s + q - 1 : Nat) : Int) = x := ⟨_, rfl⟩
                rw [hx] at hg1
                have HX1 := Aside0.mk hx
                have HBL := Aside0.mk hbl
                clear hx hbl HO'
                have h3 : (0 : Int) ≤ (s : Int) + (q : Int) - 1 := by omega
                have h4 : (s : Int) + (q : Int) - 1 < (Z.length : Int) := by omega
                go_wp2_with fail
                all_goals
                  go_roundg ((T.vals i).length - (q + 1))
                  case measure => have := HG3.out; omega
                  case rel => exact ⟨q + 1, by go_num, ⟨by have := HG3.out; omega⟩, ⟨bump_round HO.out h1 HBL.out h2 HX1.out HVv.out (by omega)⟩, ⟨whole_put HW.out HO.out _⟩, ⟨below_set HB.out (Kd.R_base HO.out go_ rfl)⟩⟩
              · have h3 : (0 : Int) ≤ (s : Int) + (q : Int) - 1 := by omega
                have h4 : (Z.length : Int) ≤ (s : Int) + (q : Int) - 1 := by omega
                have HBL := Aside0.mk hbl
                clear hbl HO'
                go_wp2_with fail
                go_roundg ((T.vals i).length - (q + 1))
                case measure => have := HG3.out; omega
                case rel => exact ⟨q + 1, by go_num, ⟨by have := HG3.out; omega⟩, ⟨by rw [bump_miss HBL.out (by omega)]; exact HO.out⟩, HW, HB⟩
            · have h3 : (s : Int) + (q : Int) - 1 < 0 := by omega
              have HBL := Aside0.mk hbl
              clear hbl HO'
              go_wp2_with fail
              go_roundg ((T.vals i).length - (q + 1))
              case measure => have := HG3.out; omega
              case rel => exact ⟨q + 1, by go_num, ⟨by have := HG3.out; omega⟩, ⟨by rw [bump_miss HBL.out (by omega)]; exact HO.out⟩, HW, HB⟩
          · have hqe : q = (T.vals i).length := by have := HG3.out; omega
            have HO2 : Aside0 (Kd.R (Kd.int .u8) 5 wr w.heap.size (fun _ => True) (.slice (some ⟨go_, 0, none⟩) Z.length cap1) (bump O (T.vals i) s)) := ⟨by have := HO.out; rw [hqe] at this; exact this⟩
            clear hqe HO
            by_cases hjl : j < WL.length
            · have hje : ((j : Int) == (WL.length : Int)) = false := by rw [beq_eq_false_iff_ne]; omega
              have hcT := hT.cellT
              have hcM := hT.cellM hi
              have p4 : (0 : Int) ≤ (j : Int) := by omega
              have q4 : (j : Int) < (WL.length : Int) := by omega
              obtain ⟨_, _, hwc⟩ := Kd.R_reads' HW.out
              obtain ⟨ad4, e4, hx4⟩ := Kd.at_int hwc (j : Int) p4 q4
              subst e4
              simp only [Int.toNat_natCast] at hx4
              obtain ⟨r, hr⟩ : ∃ r, rd WL (j : Int) = r := ⟨_, rfl⟩
              rw [hr] at hx4
              have hr32 : In32 r := by
                have hm := rd_mem WL j hjl
                rw [hr, ← HWL.out] at hm
                simp only [wholeOf, List.cons_append, List.mem_cons, List.mem_append, List.not_mem_nil, or_false] at hm
                rcases hm with h | h | h
                · rw [h]; exact ⟨by decide, by decide⟩
                · exact H32.out r h
                · rw [h]; exact ⟨by decide, by decide⟩
              have HRr := Aside0.mk hr
              clear hr hwc
              have hlook : (Instr.lookup 88 (.map (ms i)) (.int .i32 r) true).run Try.prog wr.drew = .ok (.tuple #[.int .i64 (((T.next i r).getD 0 : Nat) : Int), .bool (T.next i r).isSome]) wr.drew := (hT.drew.mo i).look hr32
              cases hn' : T.next i r with
              | none =>
                rw [hn'] at hlook
                simp only [Option.getD_none, Option.isSome_none, Int.natCast_zero] at hlook
                have hx := run_none HX.out hjl HRr.out hn'
                have HX2 := Aside0.mk hx
                clear hx hn'
                go_wp2_with fail
                go_region
                go_wp2_with fail
                go_roundg (WL.length - (s + 1))
                case measure => have := HG.out; omega
                case rel => exact ⟨s + 1, by go_num, ⟨by omega⟩, ⟨by rw [valuesTo_succ, HO0.out, HXX.out, ← HX2.out]; exact Kd.R_drew HO2.out⟩, ⟨Kd.R_drew HW.out⟩, ⟨below_drew HB.out⟩⟩
              | some m =>
                rw [hn'] at hlook
                simp only [Option.getD_some, Option.isSome_some] at hlook
                have hx := run_some HX.out hjl HRr.out hn'
                have HX2 := Aside0.mk hx
                have HM := Aside0.mk (hT.ok.lt _ _ _ hn')
                clear hx hn'
                go_wp2_with fail
                go_region
                go_wp2_with fail
                go_roundg (WL.length + 1 + s - (j + 1))
                case measure => have := HF.out; omega
                case rel => exact ⟨j + 1, m, bump O (T.vals i) s, by go_num, rfl, ⟨HM.out, by omega, by omega, by rw [bump_length]; exact HF.out.2.2.2⟩, HX2, ⟨Kd.R_drew HO2.out⟩, ⟨Kd.R_drew HW.out⟩, ⟨below_drew HB.out⟩⟩
            · have hje : ((j : Int) == (WL.length : Int)) = true := by rw [beq_iff_eq]; omega
              have hx := run_end HX.out (by omega)
              have HX2 := Aside0.mk hx
              clear hx
              go_wp2_with fail
              go_roundg (WL.length - (s + 1))
              case measure => have := HG.out; omega
              case rel => exact ⟨s + 1, by go_num, ⟨by omega⟩, ⟨by rw [valuesTo_succ, HO0.out, HXX.out, ← HX2.out]; exact HO2.out⟩, HW, HB⟩
    · have hse : s = word.length + 2 := by have := HG.out; have := HWN.out; omega
      have HF : Aside0 (Kd.R (Kd.int .u8) 5 wr w.heap.size (fun _ => True) (.slice (some ⟨go_, 0, none⟩) Z.length cap1) (values T word)) := ⟨by
        have h := HO.out
        rw [hse, ← HWL.out, ← HZ.out] at h
        rw [HZ.out] at h
        exact HZ.out ▸ h⟩
      clear hse HO
      go_wp2_with fail
      go_ret
      exact ⟨_, rfl, HF.out, HB.out⟩

set_option maxHeartbeats 1000000 in
set_option maxRecDepth 100000 in
theorem values_nil (A : Option Addr) (c : Nat) (word : List Int) (w : World) (hn : word.length ≤ 1099511627776) :
    Calls Try.prog 20 #[.pointer none, .slice A word.length c] w fun e w' => ∃ v, e = .returned v ∧ Kd.R (Kd.int .u8) 5 w' w.heap.size (fun _ => True) v (zeros word) ∧ Below w.heap.size w w' := by
  go_enter Try.func20, Try.ntmps20
  go_wp2_with (first | (at_make; (refine Kd.R_make (Kd.int .u8) (w0 := w) w.heap.size 5 rfl (N := 18) rfl 27 (.tmp 17) (.tmp 17) rfl ((word.length : Int) + 1) rfl rfl Try.underlying27 (.int .u8 0) 1 info5 rfl (by decide) (by decide) (0 : Int) (ok := fun _ => True) (okp := fun _ => False) rfl (fun _ h => h.elim) trivial (by omega) (by omega) (Below.refl _ _) (Nat.le_refl _) ?_; intro v1 w1 ho1 hb1 hg1 hn1; clear hg1 hn1; rw [zeros_eq] at ho1; have HO1 := Aside0.mk ho1; have HB1 := Aside0.mk hb1; clear ho1 hb1)))
  go_ret
  exact ⟨_, rfl, HO1.out, HB1.out⟩

theorem size_nil (w : World) : Calls Try.prog 22 #[.pointer none] w fun e w' => e = .returned (.int .i64 0) ∧ w = w' := by
  go_enter Try.func22, Try.ntmps22
  go_wp2
  go_ret
  exact ⟨rfl, rfl⟩
theorem size_calls (w : World) (base bt : Nat) (T : TM) (hT : TrieAt w base bt T) : Calls Try.prog 22 #[.pointer (some ⟨bt, 0, none⟩)] w fun e w' => e = .returned (.int .i64 (T.n : Int)) ∧ w = w' := by
  obtain ⟨bn, cap, K, xs, ms, vs, _, hT⟩ := hT
  have hc := hT.cellT
  go_enter Try.func22, Try.ntmps22
  go_wp2
  go_ret
  exact ⟨rfl, rfl⟩
end Go.Proofs.Ytoefjhdcipgacaa.Tr
