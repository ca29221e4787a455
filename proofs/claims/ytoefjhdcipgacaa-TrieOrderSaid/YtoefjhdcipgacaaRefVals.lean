/-
  stanzaref07.Values: what it answers, as a plain function, and that it says at each place the greatest value that a pattern has there.
-/
import Derived.Test.YtoefjhdcipgacaaTrieVals
import Derived.Test.YtoefjhdcipgacaaTriePlain
import Derived.Test.YtoefjhdcipgacaaLeaf
namespace Go.Proofs.Ytoefjhdcipgacaa.Tr
open Go.RowKit Go.Proofs.YtoefjhdcipgacaaW.PrintWords Go.Proofs.YtoefjhdcipgacaaW.PrintLast Go.Proofs.YtoefjhdcipgacaaW.PrintMore
open Go.Proofs.Ytoefjhdcipgacaa.PA
attribute [local go_sem] max2_int min2_int max_two min_two

def midOf (W : List Int) (s n : Nat) : List Int := (W.take (s + n)).drop s
def refFrom (W : List Int) (p : Pat) (out : List Int) (k : Nat) : List Int := (List.range k).foldl (fun o s => if midOf W s p.1.length = p.1 then bump o p.2 s else o) out
def refTo (l : List Pat) (W out : List Int) (k : Nat) : List Int := (l.take k).foldl (fun o p => refFrom W p o (W.length + 1 - p.1.length)) out
def refVals (l : List Pat) (word : List Int) : List Int := refTo l (wholeOf word) (zeros word) l.length
theorem refFrom_zero (W : List Int) (p : Pat) (out : List Int) : refFrom W p out 0 = out := rfl
theorem refFrom_succ (W : List Int) (p : Pat) (out : List Int) (k : Nat) : refFrom W p out (k + 1) = if midOf W k p.1.length = p.1 then bump (refFrom W p out k) p.2 k else refFrom W p out k := by
  unfold refFrom; rw [List.range_succ, List.foldl_append]; rfl
theorem refFrom_length (W : List Int) (p : Pat) (out : List Int) (k : Nat) : (refFrom W p out k).length = out.length := by
  induction k with
  | zero => rfl
  | succ k ih => rw [refFrom_succ]; split <;> simp [bump_length, ih]
theorem refTo_zero (l : List Pat) (W out : List Int) : refTo l W out 0 = out := rfl
theorem refTo_succ (l : List S39) (W out : List Int) (k : Nat) (h : k < l.length) : refTo (l.map pq) W out (k + 1) = refFrom W (pq (rd_T39 l (k : Int))) (refTo (l.map pq) W out k) (W.length + 1 - (rd_T39 l (k : Int)).f0.length) := by
  have hk : k < (l.map pq).length := by simpa using h
  unfold refTo
  rw [List.take_succ_eq_append_getElem hk, List.foldl_append]
  simp [rd_T39, List.getD_eq_getElem?_getD, List.getElem?_eq_getElem h, pq]
theorem refTo_length (l : List Pat) (W out : List Int) (k : Nat) : (refTo l W out k).length = out.length := by
  unfold refTo
  generalize l.take k = l'
  induction l' generalizing out with
  | nil => rfl
  | cons p l' ih => rw [List.foldl_cons, ih, refFrom_length]

theorem bump_round_d {W : World} {base g cap n s q d : Nat} {ok : Nat → Prop} {O V : List Int} (h : Kd.R (Kd.int .u8) 5 W base ok (.slice (some ⟨g, 0, none⟩) n cap) (bumpTo O V s q)) (h1 : 1 ≤ s + q) (hd : s + q - 1 = d) (hl : (bumpTo O V s q).length = n) (h2 : d < n) {x v y : Int}
    (hx : rdOf (0 : Int) (bumpTo O V s q) (d : Int) = x) (hv : rd V (q : Int) = v) (hy : y = max x v) :
    Kd.R (Kd.int .u8) 5 (W.setCell ⟨g, d, none⟩ (.int .u8 y)) base ok (.slice (some ⟨g, 0, none⟩) n cap) (bumpTo O V s (q + 1)) := by
  subst hd
  exact bump_round h h1 hl h2 hx hv hy
theorem bump_same {O V : List Int} {n s q d : Nat} (h1 : 1 ≤ s + q) (hd : s + q - 1 = d) (hl : (bumpTo O V s q).length = n) (h2 : d < n) {x v : Int}
    (hx : rdOf (0 : Int) (bumpTo O V s q) (d : Int) = x) (hv : rd V (q : Int) = v) (hy : v ≤ x) : bumpTo O V s (q + 1) = bumpTo O V s q := by
  subst hd
  rw [bump_hit h1 hl h2 hx hv (y := x) (by omega)]
  apply List.ext_getElem?
  intro i
  rw [List.getElem?_set]
  split
  · rename_i e
    subst e
    have h3 : s + q - 1 < (bumpTo O V s q).length := by omega
    have h4 : rdOf (0 : Int) (bumpTo O V s q) ((s + q - 1 : Nat) : Int) = (bumpTo O V s q)[s + q - 1] := by
      simp only [rdOf, Int.toNat_natCast]
      rw [List.getD_eq_getElem?_getD, List.getElem?_eq_getElem h3]; rfl
    rw [if_pos h3, List.getElem?_eq_getElem h3, ← hx, h4]
  · rfl

set_option maxHeartbeats 8000000 in
set_option maxRecDepth 100000 in
theorem refVals_calls (l : List S39) (A0 : Option Addr) (c0 : Nat) (A : Option Addr) (c : Nat) (word : List Int) (w : World) (hl : Kd.C k39 w A0 l.length l) (hlc : l.length ≤ c0) (hr : Kd.C (Kd.int .i32) w A word.length word) (hc : word.length ≤ c) (hn : word.length ≤ 1099511627776)
    (hb0 : ∀ p ∈ l, p.f0.length ≤ 1099511627776) (hb1 : ∀ p ∈ l, p.f1.length ≤ 1099511627776) :
    Calls Try.prog 21 #[.slice A0 l.length c0, .slice A word.length c] w fun e w' => ∃ v, e = .returned v ∧ Kd.R (Kd.int .u8) 5 w' w.heap.size (fun _ => True) v (refVals (l.map pq) word) ∧ Below w.heap.size w w' := by
  have HLr := Aside0.mk hl
  have hmax : l.length ≤ 9223372036854775807 := Kd.C_max hl
  have HLc := Aside0.mk hlc
  have HR := Aside0.mk hr
  have HC := Aside0.mk hc
  have HV0 := Aside0.mk hb0
  have HV1 := Aside0.mk hb1
  clear hl hlc hr hc hb0 hb1
  have HBz := Aside0.mk (Below.refl w.heap.size w)
  go_enter Try.func21, Try.ntmps21
  go_wp2_with (first | ((with_reducible refine gate_dst (N := 12) rfl ?_); (refine Kd.R_lit (Kd.int .i32) (w0 := w) w.heap.size 21 ?hg (N := 12) ?hd (xs := ([46] : List Int)) (inner := [.int .i32 46]) (ok := fun _ => True) (okp := fun _ => True) ?hr ?hp (fun _ hk => hk) trivial HBz.out (below_size HBz.out) (by simp) ?_; (case hd => rfl); (case hg => rfl); (case hr => first | (go_simp; done) | (go_simp; rfl)); (case hp => exact (Reps.one (show Kd.M (Kd.int .i32) _ _ _ 46 [.int .i32 46] from rfl) (Reps.none _ _))); intro v2 w2 ho2 hb2 hg2 hn2; clear hn2 hg2; have HO2 := Aside0.mk ho2; have HB2 := Aside0.mk hb2; clear ho2 hb2)) | ((with_reducible refine gate_builtin (b := .append) (xs := #[.tmp 12, .tmp 13]) rfl ?_); at_builtin; (refine Kd.R_append_rows (Kd.int .i32) (w0 := w) w.heap.size rfl (.tmp 12) (.tmp 13) 23 21 (.int .i32 0) 4 rfl Try.underlying23 info21 rfl (by decide) (by omega) v2 [46] word _ _ _ (fun _ => True) (fun _ => False) rfl rfl HO2.out (Kd.C_below HR.out HB2.out) (fun _ _ h => h) (fun _ h => h.elim) (fun _ _ => trivial) HB2.out (below_size HB2.out) (by simp; omega) ?_; intro v3 w3 ho3 hb3 hg3 hat3; clear hat3 hg3; have HO3 := Aside0.mk ho3; have HB3 := Aside0.mk hb3; clear ho3 hb3)) | ((with_reducible refine gate_builtin (b := .append) (xs := #[.tmp 14, .tmp 15]) rfl ?_); at_builtin; (refine Kd.R_append (Kd.int .i32) (w0 := w) w.heap.size rfl (.tmp 14) (.tmp 15) 23 21 (.int .i32 0) 4 rfl Try.underlying23 info21 rfl (by decide) (by omega) v3 ([46] ++ word) 46 [.int .i32 46] (fun _ => True) (fun _ => False) rfl rfl rfl (fun _ hk => hk.elim) (fun _ _ => trivial) HO3.out HB3.out (below_size HB3.out) (by simp; omega) ?_; intro v4 w4 ho4 hb4 hg4 hat4; clear hat4 hg4; rw [whole_eq] at ho4; obtain ⟨A4, c4, hv4⟩ := Kd.R_slice ho4; rw [hv4] at ho4 ⊢; have HO4 := Aside0.mk ho4; have HB4 := Aside0.mk hb4; clear ho4 hb4 hv4)) | (at_make; (refine Kd.R_make (Kd.int .u8) (w0 := w) w.heap.size 5 rfl (N := 20) rfl 27 (.tmp 19) (.tmp 19) rfl ((word.length : Int) + 1) rfl rfl Try.underlying27 (.int .u8 0) 1 info5 rfl (by decide) (by decide) (0 : Int) (ok := fun _ => True) (okp := fun _ => False) rfl (fun _ h => h.elim) trivial (by omega) (by omega) HB4.out (below_size HB4.out) ?_; intro v1 w1 ho1 hb1 hg1 hn1; clear hn1; rw [zeros_eq] at ho1; obtain ⟨go_, cap1, hv1, _, _, _⟩ := Kd.R_form ho1 (zeros_pos word); rw [hv1] at ho1 ⊢; have HO1 := Aside0.mk ho1; have HB1 := Aside0.mk hb1; have HO5 := Aside0.mk (Kd.R_grown HO4.out hg1 (fun _ _ => by simp)); clear ho1 hb1 hv1 hg1)))
  obtain ⟨Z, hZ⟩ : ∃ Z, zeros word = Z := ⟨_, rfl⟩
  obtain ⟨WL, hWL⟩ : ∃ WL, wholeOf word = WL := ⟨_, rfl⟩
  have hwl : WL.length = word.length + 2 := by rw [← hWL]; exact whole_length word
  have hzl : Z.length = word.length + 1 := by rw [← hZ]; exact zeros_length word
  rw [hZ] at HO1 ⊢
  rw [hWL] at HO5 ⊢
  have HZ := Aside0.mk hZ
  have HWL := Aside0.mk hWL
  have HWN := Aside0.mk hwl
  have HZN := Aside0.mk hzl
  have hwn : WL.length ≤ 1099511627778 := by omega
  clear hZ hWL hwl hzl HO2 HO3 HO4 HB2 HB3 HB4 HBz
  go_loopg [7] l.length (fun g v7 w' => ∃ i : Nat, v7 = .int .i64 i ∧ Aside0 (g + i = l.length) ∧ Aside0 (Kd.R (Kd.int .u8) 5 w' w.heap.size (fun _ => True) (.slice (some ⟨go_, 0, none⟩) Z.length cap1) (refTo (l.map pq) WL Z i)) ∧ Aside0 (Kd.R (Kd.int .i32) 21 w' w.heap.size (fun _ => True) (.slice A4 WL.length c4) WL) ∧ Aside0 (Below w.heap.size w w'))
  case atStart => exact ⟨0, rfl, ⟨rfl⟩, HO1, HO5, HB1⟩
  case round =>
    clear HO1 HO5 HB1
    obtain ⟨i, rfl, HG, HO, HW, HB⟩ := hrel
    by_cases hi : i < l.length
    · have p1 : (0 : Int) ≤ (i : Int) := by omega
      have q1 : (i : Int) < (l.length : Int) := by omega
      obtain ⟨ad, Ap, cp, Aq, cq, e1, hx0, hx1, hl0, hi0, hl1, hi1⟩ := at_T39 HLr.out (i : Int) p1 q1
      subst e1
      obtain ⟨p, hp⟩ : ∃ p, rd_T39 l (i : Int) = p := ⟨_, rfl⟩
      simp only [Int.toNat_natCast] at hx0 hx1
      rw [hp] at hx0 hx1 hl0 hi0 hl1 hi1
      have hpm : p ∈ l := hp ▸ rd_T39_mem l i hi
      have hn0 : p.f0.length ≤ 1099511627776 := HV0.out p hpm
      have hn1 : p.f1.length ≤ 1099511627776 := HV1.out p hpm
      have HP := Aside0.mk hp
      have HX0 := Aside0.mk hx0
      have HX1 := Aside0.mk hx1
      have HR0 := Aside0.mk hi0
      have HC0 := Aside0.mk hl0
      have HR1 := Aside0.mk hi1
      have HC1 := Aside0.mk hl1
      clear hi0 hl0 hi1 hl1 hp hpm hx0 hx1
      have hx0 := (HB.out.cell (World.block_lt_of_cell? w _ HX0.out)).trans HX0.out
      go_wp2_with fail
      obtain ⟨O, hO⟩ : ∃ O, refTo (l.map pq) WL Z i = O := ⟨_, rfl⟩
      have hol : O.length = Z.length := by rw [← hO]; exact refTo_length _ _ _ _
      rw [hO] at HO
      have HOO := Aside0.mk hO
      have HOL := Aside0.mk hol
      clear hO hol hx0
      obtain ⟨M, hM⟩ : ∃ M, WL.length + 1 - p.f0.length = M := ⟨_, rfl⟩
      have HM := Aside0.mk hM
      clear hM
      go_loopg [9] M (fun g v9 w' => ∃ s : Nat, v9 = .int .i64 s ∧ Aside0 (g + s = M) ∧ Aside0 (Kd.R (Kd.int .u8) 5 w' w.heap.size (fun _ => True) (.slice (some ⟨go_, 0, none⟩) Z.length cap1) (refFrom WL (pq p) O s)) ∧ Aside0 (Kd.R (Kd.int .i32) 21 w' w.heap.size (fun _ => True) (.slice A4 WL.length c4) WL) ∧ Aside0 (Below w.heap.size w w'))
      case atStart => exact ⟨0, rfl, ⟨rfl⟩, HO, HW, HB⟩
      case round =>
        clear HO HW HB
        obtain ⟨s, rfl, HG2, HO, HW, HB⟩ := hrel
        have hx0 := (HB.out.cell (World.block_lt_of_cell? w _ HX0.out)).trans HX0.out
        have hsM : s ≤ M := by have := HG2.out; omega
        have hsW : s ≤ 1099511627779 := by have := HM.out; omega
        by_cases hs : s < M
        · have hsl : (s : Int) + (p.f0.length : Int) ≤ (WL.length : Int) := by have := HM.out; omega
          obtain ⟨i0, hi0', _, hsz0, _⟩ := info_parts info21
          obtain ⟨_, hwc4, hwC⟩ := Kd.R_reads' HW.out
          obtain ⟨Am, hcut, hAm, hCm⟩ := print_mid_of (P := Try.prog) (Value.int .i32) (0 : Int) 23 21 .i64 .i64 Try.underlying23 hi0' hsz0 A4 c4 WL (s : Int) ((s : Int) + (p.f0.length : Int)) (by omega) (by omega) hsl hwc4
          have hmid : (WL.take ((s : Int) + (p.f0.length : Int)).toNat).drop (s : Int).toNat = midOf WL s p.f0.length := by
            unfold midOf
            congr 2
          rw [hmid] at hcut hAm hCm
          obtain ⟨L, hL⟩ : ∃ L, midOf WL s p.f0.length = L := ⟨_, rfl⟩
          rw [hL] at hcut hAm hCm
          have HRm := Aside0.mk (Kd.C_of_reads (h1 := fun _ => rfl) (hAm _ (Kd.reads_of_C hwC)))
          have HCm := Aside0.mk hCm
          have HLm := Aside0.mk hL
          have HRp := Aside0.mk (Kd.C_below HR0.out HB.out)
          clear hi0' hsz0 hAm hCm hmid hL hwC hwc4
          obtain ⟨bq, hbq⟩ : ∃ bq, decide (L = p.f0) = bq := ⟨_, rfl⟩
          have HBq := Aside0.mk hbq
          clear hbq
          cases bq with
          | false =>
            go_wp2_with fail
            go_quiet ((go_at_call 38; refine Calls.mono (Lf.same_calls _ _ L _ _ p.f0 _ (by repeat (first | exact HRm.out | (with_reducible refine Kd.C_drewN ?_ _) | (with_reducible refine Kd.C_drew ?_))) HCm.out (by repeat (first | exact HRp.out | (with_reducible refine Kd.C_drewN ?_ _) | (with_reducible refine Kd.C_drew ?_))) HC0.out) ?_; rw [HBq.out]; rintro e w' ⟨rfl, ⟨nd, rfl⟩⟩; (try first | exact ⟨rfl, _, World.drewN_drewN _ _ _⟩ | exact ⟨rfl, _, Eq.trans (World.drewN_drewN _ _ _) (congrArg (World.drewN _) (Nat.add_assoc _ _ _))⟩)))
            go_wp2_with fail
            have hne : refFrom WL (pq p) O (s + 1) = refFrom WL (pq p) O s := by
              rw [refFrom_succ, if_neg]
              intro h
              have : L = p.f0 := HLm.out.symm.trans h
              have h2 := HBq.out
              rw [decide_eq_false_iff_not] at h2
              exact h2 this
            go_roundg (M - (s + 1))
            case measure => have := HG2.out; omega
            case rel => exact ⟨s + 1, by go_num, ⟨by omega⟩, ⟨by rw [hne]; exact Kd.R_drewN HO.out _⟩, ⟨Kd.R_drewN HW.out _⟩, ⟨pw_below_drewN HB.out _⟩⟩
          | true =>
            go_wp2_with fail
            go_quiet ((go_at_call 38; refine Calls.mono (Lf.same_calls _ _ L _ _ p.f0 _ (by repeat (first | exact HRm.out | (with_reducible refine Kd.C_drewN ?_ _) | (with_reducible refine Kd.C_drew ?_))) HCm.out (by repeat (first | exact HRp.out | (with_reducible refine Kd.C_drewN ?_ _) | (with_reducible refine Kd.C_drew ?_))) HC0.out) ?_; rw [HBq.out]; rintro e w' ⟨rfl, ⟨nd, rfl⟩⟩; (try first | exact ⟨rfl, _, World.drewN_drewN _ _ _⟩ | exact ⟨rfl, _, Eq.trans (World.drewN_drewN _ _ _) (congrArg (World.drewN _) (Nat.add_assoc _ _ _))⟩)))
            go_wp2_with fail
            have hyes : refFrom WL (pq p) O (s + 1) = bump (refFrom WL (pq p) O s) p.f1 s := by
              rw [refFrom_succ, if_pos]
              · rfl
              · exact HLm.out.trans (of_decide_eq_true HBq.out)
            have HY := Aside0.mk hyes
            obtain ⟨O2, hO2⟩ : ∃ O2, refFrom WL (pq p) O s = O2 := ⟨_, rfl⟩
            have ho2 : O2.length = Z.length := by rw [← hO2, refFrom_length]; exact HOL.out
            rw [hO2] at HO HY
            have HL2 := Aside0.mk ho2
            clear hO2 ho2 hyes hcut hx0
            go_loopg [10] p.f1.length (fun g v10 w' => ∃ q : Nat, v10 = .int .i64 q ∧ Aside0 (g + q = p.f1.length) ∧ Aside0 (Kd.R (Kd.int .u8) 5 w' w.heap.size (fun _ => True) (.slice (some ⟨go_, 0, none⟩) Z.length cap1) (bumpTo O2 p.f1 s q)) ∧ Aside0 (Kd.R (Kd.int .i32) 21 w' w.heap.size (fun _ => True) (.slice A4 WL.length c4) WL) ∧ Aside0 (Below w.heap.size w w'))
            case atStart => exact ⟨0, rfl, ⟨rfl⟩, ⟨Kd.R_drewN HO.out _⟩, ⟨Kd.R_drewN HW.out _⟩, ⟨pw_below_drewN HB.out _⟩⟩
            case round =>
              clear HO HW HB
              obtain ⟨q, rfl, HG3, HO, HW, HB⟩ := hrel
              have hx1 := (HB.out.cell (World.block_lt_of_cell? w _ HX1.out)).trans HX1.out
              by_cases hq : q < p.f1.length
              · have p2 : (0 : Int) ≤ (q : Int) := by omega
                have q2 : (q : Int) < (p.f1.length : Int) := by omega
                obtain ⟨ad2, e2, hx2⟩ := Kd.at_int HR1.out (q : Int) p2 q2
                subst e2
                simp only [Int.toNat_natCast] at hx2
                have hx3 : wr.cell? (ad2.add q) = some (.int .u8 (rd p.f1 (q : Int))) := (HB.out.cell (World.block_lt_of_cell? w _ hx2)).trans hx2
                obtain ⟨v, hv⟩ : ∃ v, rd p.f1 (q : Int) = v := ⟨_, rfl⟩
                rw [hv] at hx3
                have HVv := Aside0.mk hv
                clear hv hx2
                have hbl : (bumpTo O2 p.f1 s q).length = Z.length := by rw [bumpTo_length]; exact HL2.out
                have HBL := Aside0.mk hbl
                have HO' := HO.out
                rw [← hbl] at HO'
                clear hbl
                by_cases h1 : 1 ≤ s + q
                · obtain ⟨d, hd⟩ : ∃ d : Nat, s + q - 1 = d := ⟨_, rfl⟩
                  have hdi : (s : Int) + (q : Int) - 1 = (d : Int) := by omega
                  go_wp2_with fail
                  have HD := Aside0.mk hd
                  clear hd hdi
                  have h6 : (0 : Int) ≤ (d : Int) := by omega
                  have h3 : decide ((0 : Int) ≤ (d : Int)) = true := by simp
                  by_cases h2 : d < Z.length
                  · have hg1 := (Kd.R_cell (0 : Int) HO' (d : Int) (by omega) (by have := HBL.out; omega)).1
                    have hg2 := (Kd.R_cell (0 : Int) HO' (d : Int) (by omega) (by have := HBL.out; omega)).2
                    simp only [Int.toNat_natCast] at hg1 hg2
                    obtain ⟨x, hx⟩ : ∃ x, rdOf (0 : Int) (bumpTo O2 p.f1 s q) (d : Int) = x := ⟨_, rfl⟩
                    rw [hx] at hg1
                    have HXx := Aside0.mk hx
                    clear hx HO'
                    have h4 : decide (d < Z.length) = true := by simpa using h2
                    have h5 : (d : Int) < (Z.length : Int) := by omega
                    by_cases h7 : x < v
                    · have h8 : decide (x < v) = true := by simpa using h7
                      go_quiet (fail)
                      go_wp2_with fail
                      go_roundg (p.f1.length - (q + 1))
                      case measure => have := HG3.out; omega
                      case rel => exact ⟨q + 1, by go_num, ⟨by have := HG3.out; omega⟩, ⟨by first | exact Kd.R_drewN (bump_round_d HO.out h1 HD.out HBL.out h2 HXx.out HVv.out (by omega)) _ | exact bump_round_d (Kd.R_drewN HO.out _) h1 HD.out HBL.out h2 HXx.out HVv.out (by omega)⟩, ⟨by first | exact Kd.R_drewN (whole_put HW.out HO.out _) _ | exact whole_put (Kd.R_drewN HW.out _) (Kd.R_drewN HO.out _) _⟩, ⟨by first | exact pw_below_drewN (below_set HB.out (Kd.R_base HO.out go_ rfl)) _ | exact below_set (pw_below_drewN HB.out _) (Kd.R_base HO.out go_ rfl)⟩⟩
                    · have h8 : decide (x < v) = false := by simpa using h7
                      go_quiet (fail)
                      go_wp2_with fail
                      go_roundg (p.f1.length - (q + 1))
                      case measure => have := HG3.out; omega
                      case rel => exact ⟨q + 1, by go_num, ⟨by have := HG3.out; omega⟩, ⟨by rw [bump_same h1 HD.out HBL.out h2 HXx.out HVv.out (by omega)]; exact Kd.R_drewN HO.out _⟩, ⟨Kd.R_drewN HW.out _⟩, ⟨pw_below_drewN HB.out _⟩⟩
                  · have h4 : decide (d < Z.length) = false := by simpa using h2
                    go_quiet (fail)
                    go_wp2_with fail
                    go_roundg (p.f1.length - (q + 1))
                    case measure => have := HG3.out; omega
                    case rel => exact ⟨q + 1, by go_num, ⟨by have := HG3.out; omega⟩, ⟨by rw [bump_miss HBL.out (by have := HD.out; omega)]; exact Kd.R_drewN HO.out _⟩, ⟨Kd.R_drewN HW.out _⟩, ⟨pw_below_drewN HB.out _⟩⟩
                · have hdi : (s : Int) + (q : Int) - 1 = -1 := by omega
                  clear HO'
                  go_wp2_with fail
                  go_quiet (fail)
                  go_wp2_with fail
                  go_roundg (p.f1.length - (q + 1))
                  case measure => have := HG3.out; omega
                  case rel => exact ⟨q + 1, by go_num, ⟨by have := HG3.out; omega⟩, ⟨by rw [bump_miss HBL.out (by omega)]; exact Kd.R_drewN HO.out _⟩, ⟨Kd.R_drewN HW.out _⟩, ⟨pw_below_drewN HB.out _⟩⟩
              · have hqe : q = p.f1.length := by have := HG3.out; omega
                have HO3 : Aside0 (Kd.R (Kd.int .u8) 5 wr w.heap.size (fun _ => True) (.slice (some ⟨go_, 0, none⟩) Z.length cap1) (refFrom WL (pq p) O (s + 1))) := ⟨by rw [HY.out]; have := HO.out; rw [hqe] at this; exact this⟩
                clear hqe HO
                go_wp2_with fail
                go_roundg (M - (s + 1))
                case measure => have := HG2.out; omega
                case rel => exact ⟨s + 1, by go_num, ⟨by omega⟩, HO3, HW, HB⟩
        · have hsl : (WL.length : Int) < (s : Int) + (p.f0.length : Int) := by have := HM.out; omega
          have hse : s = M := by omega
          have HO3 : Aside0 (Kd.R (Kd.int .u8) 5 wr w.heap.size (fun _ => True) (.slice (some ⟨go_, 0, none⟩) Z.length cap1) (refTo (l.map pq) WL Z (i + 1))) := ⟨by
            rw [refTo_succ l WL Z i hi, HP.out, HOO.out, HM.out, ← hse]; exact HO.out⟩
          clear hse HO
          go_wp2_with fail
          go_roundg (l.length - (i + 1))
          case measure => have := HG.out; omega
          case rel => exact ⟨i + 1, by go_num, ⟨by omega⟩, HO3, HW, HB⟩
    · have hie : i = l.length := by have := HG.out; omega
      have HF : Aside0 (Kd.R (Kd.int .u8) 5 wr w.heap.size (fun _ => True) (.slice (some ⟨go_, 0, none⟩) Z.length cap1) (refVals (l.map pq) word)) := ⟨by
        have h := HO.out
        unfold refVals
        rw [HWL.out, HZ.out, List.length_map, ← hie]
        exact h⟩
      clear hie HO
      go_wp2_with fail
      go_ret
      exact ⟨_, rfl, HF.out, HB.out⟩
end Go.Proofs.Ytoefjhdcipgacaa.Tr
