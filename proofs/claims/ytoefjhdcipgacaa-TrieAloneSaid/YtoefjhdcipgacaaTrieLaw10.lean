/-
  stanzalaw08.TrieAlone answers true, whatever word and values lie in memory.
-/
import Derived.Test.YtoefjhdcipgacaaAwake08
import Derived.Test.YtoefjhdcipgacaaSmall
import Derived.Deep.RegionLaw
import Derived.BigRegion
namespace Go.Proofs.Ytoefjhdcipgacaa.Tr
open Go.RowKit Go.Proofs.YtoefjhdcipgacaaW.PrintWords Go.Proofs.YtoefjhdcipgacaaW.PrintLast Go.Proofs.YtoefjhdcipgacaaW.PrintMore
open Go.Proofs.Ytoefjhdcipgacaa.PA
open Go.Proofs.Ytoefjhdcipgacaa.Sm (size23)
attribute [local go_sem] max2_int min2_int max_two min_two

theorem pre_no_dot {p w : List Int} (hp : p ≠ []) (hd : ∀ r ∈ p, r ≠ 46) {s : Nat} (h : p <+: (46 :: w ++ [46]).drop s) : 1 ≤ s ∧ p <+: w.drop (s - 1) := by
  have hs : 1 ≤ s := by
    rcases Nat.eq_zero_or_pos s with rfl | h1
    · cases p with
      | nil => exact absurd rfl hp
      | cons r p =>
        rw [List.drop_zero, List.cons_append, List.cons_prefix_cons] at h
        exact absurd h.1 (hd r (List.mem_cons_self ..))
    · exact h1
  refine ⟨hs, ?_⟩
  obtain ⟨t, rfl⟩ : ∃ t, s = t + 1 := ⟨s - 1, by omega⟩
  rw [List.cons_append, List.drop_succ_cons] at h
  rw [Nat.add_sub_cancel]
  rcases Nat.lt_or_ge w.length t with hlt | hge
  · rw [List.drop_of_length_le (by rw [List.length_append, List.length_singleton]; omega)] at h
    exact absurd (List.prefix_nil.1 h) hp
  · rw [List.drop_append_of_le_length hge] at h
    rcases List.prefix_concat_iff.1 h with h | h
    · exact absurd rfl (hd 46 (by rw [h]; exact List.mem_append_right _ (List.mem_singleton.2 rfl)))
    · exact h

/-! ### The plain law -/
def dotted (a b : Bool) (D : List Int) : List Int := (if a = true then [46] else []) ++ D ++ (if b = true then [46] else [])
theorem alone_best {P Vs D X : List Int} (lead tail : Bool) (hP' : P = dotted lead tail D) (hD : D ≠ []) (hd : ∀ r ∈ D, r ≠ 46) (hV : NN Vs)
    (hx : Best [(P, Vs)] (46 :: D ++ [46]) X) (i : Nat) (hi : i < X.length) : X.getD i 0 = Vs.getD (i + (if lead = true then 1 else 0)) 0 := by
  have hP : P = (if lead = true then [46] else []) ++ D ++ (if tail = true then [46] else []) := hP'
  have hocc : P <+: (46 :: D ++ [46]).drop (1 - (if lead = true then 1 else 0)) := by
    have ht : (if tail = true then [46] else []) <+: ([46] : List Int) := by cases tail <;> simp
    obtain ⟨u, hu⟩ := ht
    refine ⟨u, ?_⟩
    rw [hP, List.append_assoc, hu]
    cases lead <;> rfl
  have huniq : ∀ s, P <+: (46 :: D ++ [46]).drop s → s = 1 - (if lead = true then 1 else 0) := by
    intro s h
    have h1 : D <+: (46 :: D ++ [46]).drop (s + (if lead = true then 1 else 0)) := by
      rw [← List.drop_drop]
      obtain ⟨u, hu⟩ := h
      rw [← hu, hP]
      cases lead with
      | true =>
        rw [if_pos rfl, if_pos rfl]
        exact ⟨_ ++ u, by simp; rfl⟩
      | false =>
        rw [if_neg (by decide), if_neg (by decide)]
        exact ⟨_ ++ u, by simp; rfl⟩
    obtain ⟨h2, h3⟩ := pre_no_dot hD hd h1
    have h4 := h3.length_le
    rw [List.length_drop] at h4
    have h5 := List.length_pos_iff.2 hD
    cases lead with
    | true => rw [if_pos rfl] at h2 h4 ⊢; omega
    | false => rw [if_neg (by decide)] at h2 h4 ⊢; omega
  obtain ⟨_, x1, x2⟩ := hx i hi
  have hs : i + 1 - (1 - (if lead = true then 1 else 0)) = i + (if lead = true then 1 else 0) := by cases lead <;> simp
  have h1 := x1 _ (P, Vs) (List.mem_singleton.2 rfl) hocc (by cases lead <;> simp)
  rw [hs] at h1
  rcases x2 with x2 | ⟨s, p, hp, hw, _, x2⟩
  · have h2 := hV (i + (if lead = true then 1 else 0))
    have h3 : Vs.getD (i + (if lead = true then 1 else 0)) 0 ≤ X.getD i 0 := h1
    omega
  · obtain rfl := List.mem_singleton.1 hp
    rw [huniq s hw, hs] at x2
    exact x2.symm
theorem none_best {D X : List Int} (hd : ∀ r ∈ D, r ≠ 122) (hx : Best [([122], [9, 9])] (46 :: D ++ [46]) X) (i : Nat) (hi : i < X.length) : X.getD i 0 = 0 := by
  obtain ⟨_, _, x2⟩ := hx i hi
  rcases x2 with x2 | ⟨s, p, hp, hw, _, _⟩
  · exact x2
  · obtain rfl := List.mem_singleton.1 hp
    have : (122 : Int) ∈ (46 :: D ++ [46] : List Int) := List.mem_of_mem_drop (hw.subset (List.mem_singleton.2 rfl))
    simp only [List.cons_append, List.mem_cons, List.mem_append, List.not_mem_nil, or_false] at this
    rcases this with h | h | h
    · exact absurd h (by decide)
    · exact absurd rfl (hd _ h)
    · exact absurd h (by decide)
def around (V : List Int) (k : Nat) : List Int := (List.range k).map fun i => V.getD (i % V.length) 0
theorem around_succ (V : List Int) (k : Nat) : around V (k + 1) = around V k ++ [V.getD (k % V.length) 0] := by
  unfold around
  rw [List.range_succ, List.map_append]
  rfl
theorem around_len (V : List Int) (k : Nat) : (around V k).length = k := by simp [around]
theorem around_mem (V : List Int) (k : Nat) (h : ∀ x ∈ V, 0 ≤ x) : ∀ x ∈ around V k, 0 ≤ x := by
  intro x hx
  obtain ⟨i, _, rfl⟩ := List.mem_map.1 hx
  exact NN.of_mem h _
theorem fit_one {ls vs : List Int} (h1 : ls.length ≤ 1000) (h2 : vs.length ≤ 1000) (h3 : ∀ r ∈ ls, In32 r) (h4 : ∀ x ∈ vs, 0 ≤ x) : Fit [⟨ls, vs⟩] :=
  ⟨by simp, fun p hp => by rw [List.mem_singleton.1 hp]; exact ⟨h1, h2, h3, h4⟩⟩
theorem dots_in {D : List Int} (h : Word D) (a b : Bool) : ∀ r ∈ dotted a b D, In32 r := by
  unfold dotted
  intro r hr
  have h46 : In32 46 := ⟨by decide, by decide⟩
  rcases List.mem_append.1 hr with hr | hr
  · rcases List.mem_append.1 hr with hr | hr
    · cases a with
      | true => rw [if_pos rfl] at hr; rw [List.mem_singleton.1 hr]; exact h46
      | false => rw [if_neg (by decide)] at hr; exact absurd hr List.not_mem_nil
    · exact h.2 r hr
  · cases b with
    | true => rw [if_pos rfl] at hr; rw [List.mem_singleton.1 hr]; exact h46
    | false => rw [if_neg (by decide)] at hr; exact absurd hr List.not_mem_nil

/-! ### The walk -/
theorem word_letters (ls : List Int) : ∀ r ∈ Lf.word true ls, r = 97 ∨ r = 98 ∨ r = 99 := by
  intro r hr
  obtain ⟨s, _, rfl⟩ := List.mem_map.1 hr
  exact letter3_in s

set_option maxHeartbeats 4000000 in
set_option maxRecDepth 100000 in
theorem trieAlone_LT (wd : List Int) (A : Option Addr) (c : Nat) (V : List Int) (A2 : Option Addr) (c2 : Nat) (dots : Int) (w : World)
    (hw : Kd.C (Kd.int .i32) w A wd.length wd) (hwc : wd.length ≤ c) (p1 : ∀ r ∈ wd, In32 r) (hv : Kd.C (Kd.int .u8) w A2 V.length V) (hvc : V.length ≤ c2) (p2 : ∀ r ∈ V, 0 ≤ r ∧ r ≤ 255)
    (hda : (bits BinOp.and IntKind.u8 dots 1 == 1) = true) (hdb : (bits BinOp.and IntKind.u8 dots 2 == 2) = true) (hz : (((Lf.word true wd).length : Int) == 0) = false) (hne : ¬ Lf.word true wd = []) (hzv : ((V.length : Int) == 0) = false) :
    Calls Try.prog 10 #[.slice A wd.length c, .slice A2 V.length c2, .int .u8 dots] w fun e w' => e = .returned (.bool true) ∧ Below w.heap.size w w' := by
  have HW := Aside0.mk hw
  have HWc := Aside0.mk hwc
  have HV := Aside0.mk hv
  have HVc := Aside0.mk hvc
  have hvm : V.length ≤ 9223372036854775807 := Kd.C_max hv
  have HVp : Aside0 (∀ x ∈ V, 0 ≤ x) := ⟨fun x hx => (p2 x hx).1⟩
  have HD : Aside0 (Word (Lf.word true wd) ∧ (Lf.word true wd).length ≤ 60 ∧ ∀ r ∈ Lf.word true wd, r = 97 ∨ r = 98 ∨ r = 99) := ⟨word_fit true wd p1, word_len _ _, word_letters wd⟩
  clear hw hwc hv hvc p1 p2
  go_enter Try.func10, Try.ntmps10
  go_wp2_with (first
    | ((with_reducible refine gate_callee (f := 16) rfl ?_); (refine goesL_ (some 13) rfl rfl Try.func16 (by kernel_rfl) rfl #[] rfl (by (try simp only [List.map_toArray, List.map_cons, List.map_nil]); first | done | rfl) ?_; refine (awake_calls _).mono ?_; rintro e w1 ⟨rfl, hb⟩; refine ⟨_, rfl, ?_⟩; replace HW := Aside0.mk (Kd.C_below HW.out hb); replace HV := Aside0.mk (Kd.C_below HV.out hb); have HB := Aside0.mk hb; clear hb))
    | ((with_reducible refine gate_callee (f := 18) rfl ?_); (refine goesL_ (some 16) rfl rfl Try.func18 (by kernel_rfl) rfl #[.slice A wd.length c, .bool true] rfl (by (try simp only [List.map_toArray, List.map_cons, List.map_nil]); first | done | rfl) ?_; refine (Lf.word_calls A c wd true _ HW.out HWc.out).mono ?_; rintro e w3 ⟨v_, rfl, hr_, hb⟩; refine ⟨_, rfl, ?_⟩; replace HV := Aside0.mk (Kd.C_below HV.out hb); replace HB := Aside0.mk (below_step HB.out hb); obtain ⟨A4, c4, hv_, hl_, hc_⟩ := Kd.R_reads hr_; subst hv_; replace HW := Aside0.mk hc_; replace HWc := Aside0.mk hl_; clear hr_ hl_ hc_; generalize Lf.word true wd = D at HW HWc HD hz hne ⊢; clear hb); have hd3 := HD.out.2.1)
    | ((with_reducible refine gate_dst (N := 31) rfl ?_); (refine Kd.R_lit (Kd.int .i32) (w0 := w3) w3.heap.size 21 ?hg (N := 31) ?hd (xs := ([46] : List Int)) (inner := [.int .i32 46]) (ok := fun _ => True) (okp := fun _ => True) ?hr ?hp (fun _ hk => hk) trivial (below_alloc (Below.refl _ _) _) (below_size (below_alloc (Below.refl _ _) _)) (by simp) ?_; (case hd => rfl); (case hg => rfl); (case hr => first | (go_simp; done) | (go_simp; rfl)); (case hp => exact (Reps.one (show Kd.M (Kd.int .i32) _ _ _ 46 [.int .i32 46] from rfl) (Reps.none _ _))); intro v_ wLai ho_ hb_ hg_ hat_; clear hat_; obtain ⟨AiLa, ciLa, hv_, _, hc_⟩ := Kd.R_reads ho_; subst hv_; have HI := Aside0.mk hc_; have HPB := Aside0.mk (blk_grown (blk_new _ _) hg_ (by simp)); have HL := Aside0.mk (Kd.R_nil (Kd.int .i32) 21 wLai w3.heap.size (fun _ => True)); have HBp := Aside0.mk hb_; clear ho_ hb_ hg_ hc_))
    | ((with_reducible refine gate_builtin (b := .append) (xs := #[.tmp 30, .tmp 31]) rfl ?_); at_builtin; (refine Kd.R_append_rows (Kd.int .i32) (w0 := w3) w3.heap.size rfl (.tmp 30) (.tmp 31) 23 21 (.int .i32 0) 4 rfl Try.underlying23 info21 rfl (by decide) (by decide) (.slice none 0 0) ([] : List Int) [46] AiLa 1 ciLa (fun _ => True) (fun _ => False) rfl rfl HL.out HI.out (fun _ _ h => h) (fun _ h => h.elim) (fun _ _ => trivial) HBp.out (below_size HBp.out) (by  simp; try omega) ?_; intro vLa wLa ho_ hb_ hg_ hat_; clear hat_; obtain ⟨La, hLa⟩ : ∃ L, ([] : List Int) ++ [46] = L := ⟨_, rfl⟩; rw [hLa] at ho_; have hlLa : Aside0 (La.length = 0 + 1) := ⟨by rw [← hLa, List.length_append]; rfl⟩; replace HPB := Aside0.mk (blk_grown HPB.out hg_ (Kd.R_ne HL.out HPB.out (by decide))); obtain ⟨ALa, cLa, hv_⟩ := Kd.R_slice ho_; subst hv_; replace HL := Aside0.mk ho_; replace HBp := Aside0.mk hb_; have HLa := Aside0.mk hLa; clear ho_ hb_ hg_ hLa HI))
    | ((refine gate_ (.store 23 (.tmp 33) (.tmp 32)) rfl ?_; refine store1 (u := .slice ALa La.length cLa) rfl rfl 23 (.tmp 33) (.tmp 32) rfl rfl rfl rfl size23 rfl HPB.out (by simp) ?_; intro wsLa hws_; replace HL := Aside0.mk (Kd.R_set HL.out HPB.out (by decide) 0 (.slice ALa La.length cLa)); replace HPB := Aside0.mk (blk_set HPB.out 0 (.slice ALa La.length cLa)); replace HBp := Aside0.mk (below_set (j := 0) (v := .slice ALa La.length cLa) HBp.out (Nat.le_refl _)); rw [← hws_] at HL HPB HBp; have qLa : wsLa.cell? ⟨w3.heap.size, 0, none⟩ = some (.slice ALa La.length cLa) := (by rw [blk_cell HPB.out 0]; rfl); clear hws_))
    | ((with_reducible refine gate_builtin (b := .append) (xs := #[.tmp 35, .tmp 36]) rfl ?_); at_builtin; (refine Kd.R_append_rows (Kd.int .i32) (w0 := w3) w3.heap.size rfl (.tmp 35) (.tmp 36) 23 21 (.int .i32 0) 4 rfl Try.underlying23 info21 rfl (by decide) (by decide) (.slice ALa La.length cLa) La D A4 D.length c4 (fun _ => True) (fun _ => False) rfl rfl HL.out (Kd.C_below HW.out HBp.out) (fun _ _ h => h) (fun _ h => h.elim) (fun _ _ => trivial) HBp.out (below_size HBp.out) (by have := hlLa.out;  simp; try omega) ?_; intro vLb wLb ho_ hb_ hg_ hat_; clear hat_; obtain ⟨Lb, hLb⟩ : ∃ L, La ++ D = L := ⟨_, rfl⟩; rw [hLb] at ho_; have hlLb : Aside0 (Lb.length = La.length + D.length) := ⟨by rw [← hLb, List.length_append]⟩; replace HPB := Aside0.mk (blk_grown HPB.out hg_ (Kd.R_ne HL.out HPB.out (by decide))); obtain ⟨ALb, cLb, hv_⟩ := Kd.R_slice ho_; subst hv_; replace HL := Aside0.mk ho_; replace HBp := Aside0.mk hb_; have HLb := Aside0.mk hLb; clear ho_ hb_ hg_ hLb))
    | ((refine gate_ (.store 23 (.tmp 38) (.tmp 37)) rfl ?_; refine store1 (u := .slice ALb Lb.length cLb) rfl rfl 23 (.tmp 38) (.tmp 37) rfl rfl rfl rfl size23 rfl HPB.out (by simp) ?_; intro wsLb hws_; replace HL := Aside0.mk (Kd.R_set HL.out HPB.out (by decide) 0 (.slice ALb Lb.length cLb)); replace HPB := Aside0.mk (blk_set HPB.out 0 (.slice ALb Lb.length cLb)); replace HBp := Aside0.mk (below_set (j := 0) (v := .slice ALb Lb.length cLb) HBp.out (Nat.le_refl _)); rw [← hws_] at HL HPB HBp; have qLb : wsLb.cell? ⟨w3.heap.size, 0, none⟩ = some (.slice ALb Lb.length cLb) := (by rw [blk_cell HPB.out 0]; rfl); clear hws_))
    | ((with_reducible refine gate_dst (N := 44) rfl ?_); (refine Kd.R_lit (Kd.int .i32) (w0 := w3) w3.heap.size 21 ?hg (N := 44) ?hd (xs := ([46] : List Int)) (inner := [.int .i32 46]) (ok := fun _ => True) (okp := fun _ => True) ?hr ?hp (fun _ hk => hk) trivial HBp.out (below_size HBp.out) (by simp) ?_; (case hd => rfl); (case hg => rfl); (case hr => first | (go_simp; done) | (go_simp; rfl)); (case hp => exact (Reps.one (show Kd.M (Kd.int .i32) _ _ _ 46 [.int .i32 46] from rfl) (Reps.none _ _))); intro v_ wLci ho_ hb_ hg_ hat_; clear hat_; obtain ⟨AiLc, ciLc, hv_, _, hc_⟩ := Kd.R_reads ho_; subst hv_; have HI := Aside0.mk hc_; replace HPB := Aside0.mk (blk_grown HPB.out hg_ (by simp)); replace HL := Aside0.mk (Kd.R_grown HL.out hg_ (fun _ _ => by simp)); replace HBp := Aside0.mk hb_; clear ho_ hb_ hg_ hc_))
    | ((with_reducible refine gate_builtin (b := .append) (xs := #[.tmp 43, .tmp 44]) rfl ?_); at_builtin; (refine Kd.R_append_rows (Kd.int .i32) (w0 := w3) w3.heap.size rfl (.tmp 43) (.tmp 44) 23 21 (.int .i32 0) 4 rfl Try.underlying23 info21 rfl (by decide) (by decide) (.slice ALb Lb.length cLb) Lb [46] AiLc 1 ciLc (fun _ => True) (fun _ => False) rfl rfl HL.out HI.out (fun _ _ h => h) (fun _ h => h.elim) (fun _ _ => trivial) HBp.out (below_size HBp.out) (by have := hlLa.out; have := hlLb.out;  simp; try omega) ?_; intro vLc wLc ho_ hb_ hg_ hat_; clear hat_; obtain ⟨Lc, hLc⟩ : ∃ L, Lb ++ [46] = L := ⟨_, rfl⟩; rw [hLc] at ho_; have hlLc : Aside0 (Lc.length = Lb.length + 1) := ⟨by rw [← hLc, List.length_append]; rfl⟩; replace HPB := Aside0.mk (blk_grown HPB.out hg_ (Kd.R_ne HL.out HPB.out (by decide))); obtain ⟨ALc, cLc, hv_⟩ := Kd.R_slice ho_; subst hv_; replace HL := Aside0.mk ho_; replace HBp := Aside0.mk hb_; have HLc := Aside0.mk hLc; clear ho_ hb_ hg_ hLc HI))
    | ((refine gate_ (.store 23 (.tmp 46) (.tmp 45)) rfl ?_; refine store1 (u := .slice ALc Lc.length cLc) rfl rfl 23 (.tmp 46) (.tmp 45) rfl rfl rfl rfl size23 rfl HPB.out (by simp) ?_; intro wsLc hws_; replace HL := Aside0.mk (Kd.R_set HL.out HPB.out (by decide) 0 (.slice ALc Lc.length cLc)); replace HPB := Aside0.mk (blk_set HPB.out 0 (.slice ALc Lc.length cLc)); replace HBp := Aside0.mk (below_set (j := 0) (v := .slice ALc Lc.length cLc) HBp.out (Nat.le_refl _)); rw [← hws_] at HL HPB HBp; have qLc : wsLc.cell? ⟨w3.heap.size, 0, none⟩ = some (.slice ALc Lc.length cLc) := (by rw [blk_cell HPB.out 0]; rfl); clear hws_); have hL62 : Lc.length ≤ 62 := (by have := hlLa.out; have := hlLb.out; have := hlLc.out; omega)))
  have hle : Aside0 (Lc.length ≤ 62 ∧ Lc.length = D.length + 1 + 1) := ⟨by have := hlLa.out; have := hlLb.out; have := hlLc.out; omega⟩
  have HPe : Aside0 (Lc = dotted true true D) := ⟨by rw [← HLc.out, ← HLb.out, ← HLa.out]; simp [dotted]⟩
  clear qLa; clear qLb; clear qLc
  go_loopg [9, 51] (Lc.length + 1) (fun g v9 v51 w' => ∃ (k : Nat) (v1 : Value), v51 = .int .i64 k ∧ Aside0 (g + k = Lc.length + 1) ∧ Aside0 (w'.heap[w3.heap.size]? = some (.cells #[.slice ALc Lc.length cLc, v1] 39 (0, 0))) ∧ Aside0 (Kd.R (Kd.int .i32) 21 w' w3.heap.size (fun _ => True) (.slice ALc Lc.length cLc) Lc) ∧ Aside0 (Kd.R (Kd.int .u8) 5 w' w3.heap.size (fun _ => True) v1 (around V k)) ∧ Aside0 (Below w3.heap.size w3 w'))
  case atStart => exact ⟨0, .slice none 0 0, rfl, ⟨rfl⟩, HPB, HL, ⟨Kd.R_nil _ _ _ _ _⟩, HBp⟩
  case round =>
    clear HPB HL HBp
    obtain ⟨k, v1, rfl, HG, HPB, HL, HR, HBp⟩ := hrel
    by_cases hk : k < Lc.length + 1
    · have hk62 : k ≤ 62 := by have := hle.out; omega
      have hvpos : 0 < V.length := by
        have : ¬ (V.length : Int) = 0 := by simpa using hzv
        omega
      have hr0 : k % V.length < V.length := Nat.mod_lt _ hvpos
      obtain ⟨ad, e1, hx⟩ := Kd.at_int HV.out ((k : Int) % (V.length : Int)) (Int.emod_nonneg _ (by omega)) (Int.emod_lt_of_pos _ (by omega))
      subst e1
      have hmod : (k : Int) % (V.length : Int) = ((k % V.length : Nat) : Int) := rfl
      have htm : (k : Int).tmod (V.length : Int) = ((k % V.length : Nat) : Int) := by rw [Int.tmod_eq_emod_of_nonneg (by omega)]; rfl
      rw [hmod, Int.toNat_natCast] at hx
      have hx3 := (HBp.out.cell (World.block_lt_of_cell? w3 _ hx)).trans hx
      have hgs := around_succ V k
      have hxr : rd V ((k % V.length : Nat) : Int) = V.getD (k % V.length) 0 := rfl
      rw [hxr] at hx3
      generalize V.getD (k % V.length) 0 = x at hx3 hgs
      have HGS := Aside0.mk hgs
      generalize k % V.length = m at hr0 htm hx3 hmod
      have q1 : wr.cell? ⟨w3.heap.size, 1, none⟩ = some v1 := by rw [blk_cell HPB.out 1]; rfl
      obtain ⟨Av, cv, hv1⟩ := Kd.R_slice HR.out
      subst hv1
      have HRd := Aside0.mk (Kd.R_drew HR.out)
      have HLd := Aside0.mk (Kd.R_drew HL.out)
      have HBd := Aside0.mk (below_drew HBp.out)
      have HPBd : Aside0 (wr.drew.heap[w3.heap.size]? = some (.cells #[.slice ALc Lc.length cLc, .slice Av (around V k).length cv] 39 (0, 0))) := ⟨HPB.out⟩
      clear hx hxr hgs
      go_wp2_with fail
      have hvn0 : ((V.length : Int) = 0) = False := eq_false (by omega)
      have hvn1 : ¬ V = [] := by rintro rfl; exact absurd hvpos (Nat.lt_irrefl _)
      have qa : (wr.alloc (.cells #[.int .u8 x] 5)).cell? ⟨w3.heap.size, 1, none⟩ = some (.slice Av (around V k).length cv) := by rw [blk_cell (blk_alloc HPB.out _) 1]; rfl
      have HRAL := Aside0.mk (around_len V k)
      go_region_law (refine Kd.R_append_step (Kd.int .u8) (w0 := w3) w3.heap.size rfl (.tmp 55) (.tmp 63) 27 5 (.int .u8 0) 1 rfl Try.underlying27 info5 rfl (by decide) (by decide) (.slice Av (around V k).length cv) (around V k) x [.int .u8 x] (fun _ => True) (fun _ => False) rfl rfl rfl (fun _ hk => hk.elim) (fun _ _ => trivial) HRd.out HBd.out (below_size HBd.out) (by have := HRAL.out; omega) ?_; intro v1 w64 ho_ hb_ hg_ hat_; clear hat_; rw [← HGS.out] at ho_; have HPB1 := Aside0.mk (blk_grown HPBd.out hg_ (Kd.R_ne HRd.out HPBd.out (by decide))); have HL1 := Aside0.mk (Kd.R_grown2 HLd.out rfl hg_ (fun k_ hk_ => by obtain ⟨cs_, hcs_⟩ := own_typed (Kd.own_of_R HRd.out) k_ hk_; exact Kd.R_ne HLd.out hcs_ (by decide))); obtain ⟨A5, c5, hv_⟩ := Kd.R_slice ho_; subst hv_; have HR1 := Aside0.mk ho_; have HB1 := Aside0.mk hb_; have q64 : w64.cell? ⟨w3.heap.size, 1, none⟩ = some (.slice Av (around V k).length cv) := (by rw [blk_cell HPB1.out 1]; rfl); have f64 : w64.frozen? ⟨w3.heap.size, 1, none⟩ = false := blk_frozen HPB1.out 1; clear ho_ hb_ hg_)
      all_goals go_wp2_with fail
      all_goals
        go_roundg (Lc.length + 1 - (k + 1))
        case measure => have := HG.out; omega
        case rel => exact ⟨k + 1, _, by go_num, ⟨by omega⟩, ⟨blk_set HPB1.out 1 _⟩, ⟨Kd.R_set HL1.out HPB1.out (by decide) 1 _⟩, ⟨Kd.R_set HR1.out HPB1.out (by decide) 1 _⟩, ⟨below_set (j := 1) (v := .slice A5 (around V (k + 1)).length c5) HB1.out (Nat.le_refl _)⟩⟩
    · have hke : k = Lc.length + 1 := by have := HG.out; omega
      subst hke
      have hvsl := around_len V (Lc.length + 1)
      have hvsm := around_mem V (Lc.length + 1) HVp.out
      generalize around V (Lc.length + 1) = VS at HR hvsl hvsm
      have HVL := Aside0.mk hvsl
      have HVM := Aside0.mk hvsm
      obtain ⟨Av, cv, hv1⟩ := Kd.R_slice HR.out
      subst hv1
      have q0 : wr.cell? ⟨w3.heap.size, 0, none⟩ = some (.slice ALc Lc.length cLc) := by rw [blk_cell HPB.out 0]; rfl
      have q1 : wr.cell? ⟨w3.heap.size, 1, none⟩ = some (.slice Av VS.length cv) := by rw [blk_cell HPB.out 1]; rfl
      replace HW := Aside0.mk (Kd.C_below HW.out HBp.out)
      have HRc := Aside0.mk (Kd.R_reads' HR.out).2.2
      replace HB := Aside0.mk (below_step HB.out HBp.out)
      have HDW := Aside0.mk HD.out.1
      have HP1 : Aside0 (Fit [⟨Lc, VS⟩]) := ⟨fit_one (by have := hle.out; omega) (by have := hle.out; omega) (by rw [HPe.out]; exact dots_in HD.out.1 _ _) hvsm⟩
      have HP2 : Aside0 (Fit [⟨[122], [9, 9]⟩]) := ⟨fit_one (by decide) (by decide) (by intro r hr; rw [List.mem_singleton.1 hr]; exact ⟨by decide, by decide⟩) (by decide)⟩
      clear HG hvsl hvsm hk
      go_wp2_with (first
        | ((with_reducible refine gate_dst (N := 68) rfl ?_); (refine Kd.R_lit k39 (w0 := w3) w3.heap.size 39 ?hg (N := 68) ?hd (xs := ([⟨Lc, VS⟩] : List S39)) (inner := [.slice ALc Lc.length cLc, .slice Av VS.length cv]) (ok := fun _ => True) (okp := fun _ => True) ?hr ?hp (fun _ hk => hk) trivial HBp.out (below_size HBp.out) (by simp) ?_; (case hd => rfl); (case hg => rfl); (case hr => first | (go_simp; done) | (go_simp; rfl)); (case hp => exact (Reps.c2 (k39_mkM _ _ _ ⟨Lc, VS⟩ HL.out HR.out) (Reps.none _ _))); intro v_ w68 ho_ hb_ hg_ hat_; clear hat_; obtain ⟨A8, c8, hv_, hl_, hc_⟩ := Kd.R_reads ho_; subst hv_; have HC8 := Aside0.mk hc_; have HC8c := Aside0.mk hl_; have hb := (Below.refl wr.heap.size wr).grown hg_ (Nat.le_refl _) (fun k h => by simp at h); replace HW := Aside0.mk (Kd.C_below HW.out hb); replace HRc := Aside0.mk (Kd.C_below HRc.out hb); replace HPB := Aside0.mk (blk_below HPB.out hb); replace HB := Aside0.mk (below_step HB.out hb); clear ho_ hb_ hg_ hc_ hl_ hb q0 q1))
        | ((with_reducible refine gate_callee (f := 19) rfl ?_); (refine goesL_ (some 69) rfl rfl Try.func19 (by kernel_rfl) rfl #[.slice A8 ([⟨Lc, VS⟩] : List S39).length c8] rfl (by (try simp only [List.map_toArray, List.map_cons, List.map_nil]); first | done | rfl) ?_; refine (make_fit ([⟨Lc, VS⟩] : List S39) A8 c8 _ HC8.out HC8c.out HP1.out).mono ?_; rintro e w69 ⟨bt1, rfl, hT_, hb⟩; refine ⟨_, rfl, ?_⟩; replace HW := Aside0.mk (Kd.C_below HW.out hb); replace HRc := Aside0.mk (Kd.C_below HRc.out hb); replace HPB := Aside0.mk (blk_below HPB.out hb); replace HB := Aside0.mk (below_step HB.out hb); have HT1 := Aside0.mk hT_; clear hT_; clear hb; clear HC8))
        | ((with_reducible refine gate_callee (f := 20) rfl ?_); (refine goesL_ (some 71) rfl rfl Try.func20 (by kernel_rfl) rfl #[.pointer (some ⟨bt1, 0, none⟩), .slice A4 D.length c4] rfl (by (try simp only [List.map_toArray, List.map_cons, List.map_nil]); first | done | rfl) ?_; refine (values_fit ([⟨Lc, VS⟩] : List S39) _ bt1 A4 c4 D _ HT1.out HW.out HWc.out HP1.out HDW.out).mono ?_; rintro e w71 ⟨v_, rfl, hr_, hb⟩; refine ⟨_, rfl, ?_⟩; replace HW := Aside0.mk (Kd.C_below HW.out hb); replace HRc := Aside0.mk (Kd.C_below HRc.out hb); replace HPB := Aside0.mk (blk_below HPB.out hb); replace HB := Aside0.mk (below_step HB.out hb); obtain ⟨X, hx_⟩ : ∃ X, values (make (List.map pq ([⟨Lc, VS⟩] : List S39))) D = X := ⟨_, rfl⟩; rw [hx_] at hr_; have hXl : X.length = D.length + 1 := (by rw [← hx_]; exact values_length _ _); have HXe := Aside0.mk hx_; obtain ⟨A71, c71, hv_, _, hc_⟩ := Kd.R_reads hr_; subst hv_; have HX := Aside0.mk hc_; clear hr_ hc_ hx_; clear hb; clear HT1))
        | ((with_reducible refine gate_dst (N := 72) rfl ?_); (refine Kd.R_lit (Kd.int .i32) (w0 := w71) w71.heap.size 21 ?hg (N := 72) ?hd (xs := ([122] : List Int)) (inner := [.int .i32 122]) (ok := fun _ => True) (okp := fun _ => True) ?hr ?hp (fun _ hk => hk) trivial (Below.refl _ _) (below_size (Below.refl _ _)) (by simp) ?_; (case hd => rfl); (case hg => rfl); (case hr => first | (go_simp; done) | (go_simp; rfl)); (case hp => exact (Reps.one (show Kd.M (Kd.int .i32) _ _ _ 122 [.int .i32 122] from rfl) (Reps.none _ _))); intro v_ w72 ho_ hb_ hg_ hat_; clear hat_; obtain ⟨A72, c72, hv_⟩ := Kd.R_slice ho_; subst hv_; have H72 := Aside0.mk ho_; have HB72 := Aside0.mk hb_; clear ho_ hb_ hg_))
        | ((with_reducible refine gate_dst (N := 73) rfl ?_); (refine Kd.R_lit (Kd.int .u8) (w0 := w71) w71.heap.size 5 ?hg (N := 73) ?hd (xs := ([9, 9] : List Int)) (inner := [.int .u8 9, .int .u8 9]) (ok := fun _ => True) (okp := fun _ => True) ?hr ?hp (fun _ hk => hk) trivial HB72.out (below_size HB72.out) (by simp) ?_; (case hd => rfl); (case hg => rfl); (case hr => first | (go_simp; done) | (go_simp; rfl)); (case hp => exact (Reps.one (show Kd.M (Kd.int .u8) _ _ _ 9 [.int .u8 9] from rfl) ((Reps.one (show Kd.M (Kd.int .u8) _ _ _ 9 [.int .u8 9] from rfl) (Reps.none _ _))))); intro v_ w73 ho_ hb_ hg_ hat_; clear hat_; obtain ⟨A73, c73, hv_⟩ := Kd.R_slice ho_; subst hv_; have H73 := Aside0.mk ho_; have HB73 := Aside0.mk hb_; replace H72 := Aside0.mk (Kd.R_grown H72.out hg_ (fun _ _ => by simp)); clear ho_ hb_ hg_ HB72))
        | ((with_reducible refine gate_dst (N := 75) rfl ?_); (refine Kd.R_lit k39 (w0 := w71) w71.heap.size 39 ?hg (N := 75) ?hd (xs := ([⟨[122], [9, 9]⟩] : List S39)) (inner := [.slice A72 1 c72, .slice A73 2 c73]) (ok := fun _ => True) (okp := fun _ => True) ?hr ?hp (fun _ hk => hk) trivial HB73.out (below_size HB73.out) (by simp) ?_; (case hd => rfl); (case hg => rfl); (case hr => first | (go_simp; done) | (go_simp; rfl)); (case hp => exact (Reps.c2 (k39_mkM _ _ _ ⟨[122], [9, 9]⟩ H72.out H73.out) (Reps.none _ _))); intro v_ w75 ho_ hb_ hg_ hat_; clear hat_; obtain ⟨A75, c75, hv_, hl_, hc_⟩ := Kd.R_reads ho_; subst hv_; have HC9 := Aside0.mk hc_; have HC9c := Aside0.mk hl_; have hb := hb_; replace HW := Aside0.mk (Kd.C_below HW.out hb); replace HRc := Aside0.mk (Kd.C_below HRc.out hb); replace HPB := Aside0.mk (blk_below HPB.out hb); replace HB := Aside0.mk (below_step HB.out hb); replace HX := Aside0.mk (Kd.C_below HX.out hb); clear ho_ hb_ hg_ hc_ hl_ hb H72 H73 HB73))
        | ((with_reducible refine gate_callee (f := 19) rfl ?_); (refine goesL_ (some 76) rfl rfl Try.func19 (by kernel_rfl) rfl #[.slice A75 ([⟨[122], [9, 9]⟩] : List S39).length c75] rfl (by (try simp only [List.map_toArray, List.map_cons, List.map_nil]); first | done | rfl) ?_; refine (make_fit ([⟨[122], [9, 9]⟩] : List S39) A75 c75 _ HC9.out HC9c.out HP2.out).mono ?_; rintro e w76 ⟨bt2, rfl, hT_, hb⟩; refine ⟨_, rfl, ?_⟩; replace HW := Aside0.mk (Kd.C_below HW.out hb); replace HRc := Aside0.mk (Kd.C_below HRc.out hb); replace HPB := Aside0.mk (blk_below HPB.out hb); replace HB := Aside0.mk (below_step HB.out hb); replace HX := Aside0.mk (Kd.C_below HX.out hb); have HT2 := Aside0.mk hT_; clear hT_; clear hb; clear HC9))
        | ((with_reducible refine gate_callee (f := 20) rfl ?_); (refine goesL_ (some 78) rfl rfl Try.func20 (by kernel_rfl) rfl #[.pointer (some ⟨bt2, 0, none⟩), .slice A4 D.length c4] rfl (by (try simp only [List.map_toArray, List.map_cons, List.map_nil]); first | done | rfl) ?_; refine (values_fit ([⟨[122], [9, 9]⟩] : List S39) _ bt2 A4 c4 D _ HT2.out HW.out HWc.out HP2.out HDW.out).mono ?_; rintro e w78 ⟨v_, rfl, hr_, hb⟩; refine ⟨_, rfl, ?_⟩; replace HW := Aside0.mk (Kd.C_below HW.out hb); replace HRc := Aside0.mk (Kd.C_below HRc.out hb); replace HPB := Aside0.mk (blk_below HPB.out hb); replace HB := Aside0.mk (below_step HB.out hb); replace HX := Aside0.mk (Kd.C_below HX.out hb); obtain ⟨Y, hx_⟩ : ∃ X, values (make (List.map pq ([⟨[122], [9, 9]⟩] : List S39))) D = X := ⟨_, rfl⟩; rw [hx_] at hr_; have hYl : Y.length = D.length + 1 := (by rw [← hx_]; exact values_length _ _); have HYe := Aside0.mk hx_; obtain ⟨A78, c78, hv_, _, hc_⟩ := Kd.R_reads hr_; subst hv_; have HY := Aside0.mk hc_; clear hr_ hc_ hx_; clear hb; clear HT2)))
      have HXb : Aside0 (∀ i : Nat, i < D.length + 1 → rd X (i : Int) = rd VS ((i : Int) + 1)) := ⟨fun i hi => by
        have hb : Best [(Lc, VS)] (46 :: D ++ [46]) X := HXe.out ▸ values_best _ HP1.out.nn D
        have := alone_best (D := D) true true HPe.out hne (fun r hr => by rcases HD.out.2.2 r hr with h | h | h <;> rw [h] <;> decide) (NN.of_mem HVM.out) hb i (by omega)
        exact this⟩
      have HYb : Aside0 (∀ i : Nat, i < D.length + 1 → rd Y (i : Int) = 0) := ⟨fun i hi => by
        have hb : Best [([122], [9, 9])] (46 :: D ++ [46]) Y := HYe.out ▸ values_best _ HP2.out.nn D
        exact none_best (D := D) (fun r hr => by rcases HD.out.2.2 r hr with h | h | h <;> rw [h] <;> decide) hb i (by omega)⟩
      have q1 : w78.cell? ⟨w3.heap.size, 1, none⟩ = some (.slice Av VS.length cv) := by rw [blk_cell HPB.out 1]; rfl
      go_loopg [12, 95] (D.length + 1) (fun g v12 v95 w' => ∃ i : Nat, v95 = .int .i64 i ∧ Aside0 (g + i = D.length + 1) ∧ ∃ n, w' = w78.drewN n)
      case atStart => exact ⟨0, rfl, ⟨rfl⟩, 0, rfl⟩
      case round =>
        obtain ⟨i, rfl, HG, nd, rfl⟩ := hrel
        by_cases hi : i < D.length + 1
        · have p1 : (0 : Int) ≤ (i : Int) := by omega
          have hvl : VS.length = D.length + 1 + 1 + 1 := by have := HVL.out; have := hle.out; omega
          obtain ⟨ax, ex, hx⟩ := Kd.at_int HX.out (i : Int) p1 (by omega)
          obtain ⟨ay, ey, hy⟩ := Kd.at_int HY.out (i : Int) p1 (by omega)
          obtain ⟨av, ev, hv⟩ := Kd.at_int HRc.out ((i : Int) + 1) (by omega) (by omega)
          subst ex ey ev
          rw [HXb.out i hi] at hx
          rw [HYb.out i hi] at hy
          generalize rd VS ((i : Int) + 1) = x at hx hv
          rw [show ((i : Int) + 1).toNat = i + 1 by omega] at hv
          replace hv : w78.cell? ⟨av.block, av.off + (i + 1), none⟩ = some (.int .u8 x) := by simpa [Addr.add] using hv
          rw [Int.toNat_natCast] at hx hy
          have p2 : (0 : Int) ≤ ((i : Int) + 1) := by omega
          have q2 : decide (((i : Int) + 1) < (VS.length : Int)) = true := decide_eq_true (by omega)
          have q3 : ((i : Int) + 1) < (VS.length : Int) := by omega
          have q0 : decide ((0 : Int) ≤ (i : Int)) = true := decide_eq_true p1
          have HVl := Aside0.mk hvl
          clear hvl
          go_wp2_with fail
          go_region
          all_goals go_wp2_with fail
          all_goals
            go_roundg (D.length + 1 - (i + 1))
            case measure => have := HG.out; omega
            case rel => exact ⟨i + 1, by go_num, ⟨by omega⟩, _, rfl⟩
        · have hie : i = D.length + 1 := by have := HG.out; omega
          subst hie
          clear HG hi
          go_wp2_with fail
          go_ret
          exact ⟨rfl, pw_below_drewN HB.out _⟩



set_option maxHeartbeats 4000000 in
set_option maxRecDepth 100000 in
theorem trieAlone_LN (wd : List Int) (A : Option Addr) (c : Nat) (V : List Int) (A2 : Option Addr) (c2 : Nat) (dots : Int) (w : World)
    (hw : Kd.C (Kd.int .i32) w A wd.length wd) (hwc : wd.length ≤ c) (p1 : ∀ r ∈ wd, In32 r) (hv : Kd.C (Kd.int .u8) w A2 V.length V) (hvc : V.length ≤ c2) (p2 : ∀ r ∈ V, 0 ≤ r ∧ r ≤ 255)
    (hda : (bits BinOp.and IntKind.u8 dots 1 == 1) = true) (hdb : (bits BinOp.and IntKind.u8 dots 2 == 2) = false) (hz : (((Lf.word true wd).length : Int) == 0) = false) (hne : ¬ Lf.word true wd = []) (hzv : ((V.length : Int) == 0) = false) :
    Calls Try.prog 10 #[.slice A wd.length c, .slice A2 V.length c2, .int .u8 dots] w fun e w' => e = .returned (.bool true) ∧ Below w.heap.size w w' := by
  have HW := Aside0.mk hw
  have HWc := Aside0.mk hwc
  have HV := Aside0.mk hv
  have HVc := Aside0.mk hvc
  have hvm : V.length ≤ 9223372036854775807 := Kd.C_max hv
  have HVp : Aside0 (∀ x ∈ V, 0 ≤ x) := ⟨fun x hx => (p2 x hx).1⟩
  have HD : Aside0 (Word (Lf.word true wd) ∧ (Lf.word true wd).length ≤ 60 ∧ ∀ r ∈ Lf.word true wd, r = 97 ∨ r = 98 ∨ r = 99) := ⟨word_fit true wd p1, word_len _ _, word_letters wd⟩
  clear hw hwc hv hvc p1 p2
  go_enter Try.func10, Try.ntmps10
  go_wp2_with (first
    | ((with_reducible refine gate_callee (f := 16) rfl ?_); (refine goesL_ (some 13) rfl rfl Try.func16 (by kernel_rfl) rfl #[] rfl (by (try simp only [List.map_toArray, List.map_cons, List.map_nil]); first | done | rfl) ?_; refine (awake_calls _).mono ?_; rintro e w1 ⟨rfl, hb⟩; refine ⟨_, rfl, ?_⟩; replace HW := Aside0.mk (Kd.C_below HW.out hb); replace HV := Aside0.mk (Kd.C_below HV.out hb); have HB := Aside0.mk hb; clear hb))
    | ((with_reducible refine gate_callee (f := 18) rfl ?_); (refine goesL_ (some 16) rfl rfl Try.func18 (by kernel_rfl) rfl #[.slice A wd.length c, .bool true] rfl (by (try simp only [List.map_toArray, List.map_cons, List.map_nil]); first | done | rfl) ?_; refine (Lf.word_calls A c wd true _ HW.out HWc.out).mono ?_; rintro e w3 ⟨v_, rfl, hr_, hb⟩; refine ⟨_, rfl, ?_⟩; replace HV := Aside0.mk (Kd.C_below HV.out hb); replace HB := Aside0.mk (below_step HB.out hb); obtain ⟨A4, c4, hv_, hl_, hc_⟩ := Kd.R_reads hr_; subst hv_; replace HW := Aside0.mk hc_; replace HWc := Aside0.mk hl_; clear hr_ hl_ hc_; generalize Lf.word true wd = D at HW HWc HD hz hne ⊢; clear hb); have hd3 := HD.out.2.1)
    | ((with_reducible refine gate_dst (N := 31) rfl ?_); (refine Kd.R_lit (Kd.int .i32) (w0 := w3) w3.heap.size 21 ?hg (N := 31) ?hd (xs := ([46] : List Int)) (inner := [.int .i32 46]) (ok := fun _ => True) (okp := fun _ => True) ?hr ?hp (fun _ hk => hk) trivial (below_alloc (Below.refl _ _) _) (below_size (below_alloc (Below.refl _ _) _)) (by simp) ?_; (case hd => rfl); (case hg => rfl); (case hr => first | (go_simp; done) | (go_simp; rfl)); (case hp => exact (Reps.one (show Kd.M (Kd.int .i32) _ _ _ 46 [.int .i32 46] from rfl) (Reps.none _ _))); intro v_ wLai ho_ hb_ hg_ hat_; clear hat_; obtain ⟨AiLa, ciLa, hv_, _, hc_⟩ := Kd.R_reads ho_; subst hv_; have HI := Aside0.mk hc_; have HPB := Aside0.mk (blk_grown (blk_new _ _) hg_ (by simp)); have HL := Aside0.mk (Kd.R_nil (Kd.int .i32) 21 wLai w3.heap.size (fun _ => True)); have HBp := Aside0.mk hb_; clear ho_ hb_ hg_ hc_))
    | ((with_reducible refine gate_builtin (b := .append) (xs := #[.tmp 30, .tmp 31]) rfl ?_); at_builtin; (refine Kd.R_append_rows (Kd.int .i32) (w0 := w3) w3.heap.size rfl (.tmp 30) (.tmp 31) 23 21 (.int .i32 0) 4 rfl Try.underlying23 info21 rfl (by decide) (by decide) (.slice none 0 0) ([] : List Int) [46] AiLa 1 ciLa (fun _ => True) (fun _ => False) rfl rfl HL.out HI.out (fun _ _ h => h) (fun _ h => h.elim) (fun _ _ => trivial) HBp.out (below_size HBp.out) (by  simp; try omega) ?_; intro vLa wLa ho_ hb_ hg_ hat_; clear hat_; obtain ⟨La, hLa⟩ : ∃ L, ([] : List Int) ++ [46] = L := ⟨_, rfl⟩; rw [hLa] at ho_; have hlLa : Aside0 (La.length = 0 + 1) := ⟨by rw [← hLa, List.length_append]; rfl⟩; replace HPB := Aside0.mk (blk_grown HPB.out hg_ (Kd.R_ne HL.out HPB.out (by decide))); obtain ⟨ALa, cLa, hv_⟩ := Kd.R_slice ho_; subst hv_; replace HL := Aside0.mk ho_; replace HBp := Aside0.mk hb_; have HLa := Aside0.mk hLa; clear ho_ hb_ hg_ hLa HI))
    | ((refine gate_ (.store 23 (.tmp 33) (.tmp 32)) rfl ?_; refine store1 (u := .slice ALa La.length cLa) rfl rfl 23 (.tmp 33) (.tmp 32) rfl rfl rfl rfl size23 rfl HPB.out (by simp) ?_; intro wsLa hws_; replace HL := Aside0.mk (Kd.R_set HL.out HPB.out (by decide) 0 (.slice ALa La.length cLa)); replace HPB := Aside0.mk (blk_set HPB.out 0 (.slice ALa La.length cLa)); replace HBp := Aside0.mk (below_set (j := 0) (v := .slice ALa La.length cLa) HBp.out (Nat.le_refl _)); rw [← hws_] at HL HPB HBp; have qLa : wsLa.cell? ⟨w3.heap.size, 0, none⟩ = some (.slice ALa La.length cLa) := (by rw [blk_cell HPB.out 0]; rfl); clear hws_))
    | ((with_reducible refine gate_builtin (b := .append) (xs := #[.tmp 35, .tmp 36]) rfl ?_); at_builtin; (refine Kd.R_append_rows (Kd.int .i32) (w0 := w3) w3.heap.size rfl (.tmp 35) (.tmp 36) 23 21 (.int .i32 0) 4 rfl Try.underlying23 info21 rfl (by decide) (by decide) (.slice ALa La.length cLa) La D A4 D.length c4 (fun _ => True) (fun _ => False) rfl rfl HL.out (Kd.C_below HW.out HBp.out) (fun _ _ h => h) (fun _ h => h.elim) (fun _ _ => trivial) HBp.out (below_size HBp.out) (by have := hlLa.out;  simp; try omega) ?_; intro vLb wLb ho_ hb_ hg_ hat_; clear hat_; obtain ⟨Lb, hLb⟩ : ∃ L, La ++ D = L := ⟨_, rfl⟩; rw [hLb] at ho_; have hlLb : Aside0 (Lb.length = La.length + D.length) := ⟨by rw [← hLb, List.length_append]⟩; replace HPB := Aside0.mk (blk_grown HPB.out hg_ (Kd.R_ne HL.out HPB.out (by decide))); obtain ⟨ALb, cLb, hv_⟩ := Kd.R_slice ho_; subst hv_; replace HL := Aside0.mk ho_; replace HBp := Aside0.mk hb_; have HLb := Aside0.mk hLb; clear ho_ hb_ hg_ hLb))
    | ((refine gate_ (.store 23 (.tmp 38) (.tmp 37)) rfl ?_; refine store1 (u := .slice ALb Lb.length cLb) rfl rfl 23 (.tmp 38) (.tmp 37) rfl rfl rfl rfl size23 rfl HPB.out (by simp) ?_; intro wsLb hws_; replace HL := Aside0.mk (Kd.R_set HL.out HPB.out (by decide) 0 (.slice ALb Lb.length cLb)); replace HPB := Aside0.mk (blk_set HPB.out 0 (.slice ALb Lb.length cLb)); replace HBp := Aside0.mk (below_set (j := 0) (v := .slice ALb Lb.length cLb) HBp.out (Nat.le_refl _)); rw [← hws_] at HL HPB HBp; have qLb : wsLb.cell? ⟨w3.heap.size, 0, none⟩ = some (.slice ALb Lb.length cLb) := (by rw [blk_cell HPB.out 0]; rfl); clear hws_); have hL62 : Lb.length ≤ 62 := (by have := hlLa.out; have := hlLb.out; omega)))
  have hle : Aside0 (Lb.length ≤ 62 ∧ Lb.length = D.length + 1 + 0) := ⟨by have := hlLa.out; have := hlLb.out; omega⟩
  have HPe : Aside0 (Lb = dotted true false D) := ⟨by rw [← HLb.out, ← HLa.out]; simp [dotted]⟩
  clear qLa; clear qLb
  go_loopg [9, 51] (Lb.length + 1) (fun g v9 v51 w' => ∃ (k : Nat) (v1 : Value), v51 = .int .i64 k ∧ Aside0 (g + k = Lb.length + 1) ∧ Aside0 (w'.heap[w3.heap.size]? = some (.cells #[.slice ALb Lb.length cLb, v1] 39 (0, 0))) ∧ Aside0 (Kd.R (Kd.int .i32) 21 w' w3.heap.size (fun _ => True) (.slice ALb Lb.length cLb) Lb) ∧ Aside0 (Kd.R (Kd.int .u8) 5 w' w3.heap.size (fun _ => True) v1 (around V k)) ∧ Aside0 (Below w3.heap.size w3 w'))
  case atStart => exact ⟨0, .slice none 0 0, rfl, ⟨rfl⟩, HPB, HL, ⟨Kd.R_nil _ _ _ _ _⟩, HBp⟩
  case round =>
    clear HPB HL HBp
    obtain ⟨k, v1, rfl, HG, HPB, HL, HR, HBp⟩ := hrel
    by_cases hk : k < Lb.length + 1
    · have hk62 : k ≤ 62 := by have := hle.out; omega
      have hvpos : 0 < V.length := by
        have : ¬ (V.length : Int) = 0 := by simpa using hzv
        omega
      have hr0 : k % V.length < V.length := Nat.mod_lt _ hvpos
      obtain ⟨ad, e1, hx⟩ := Kd.at_int HV.out ((k : Int) % (V.length : Int)) (Int.emod_nonneg _ (by omega)) (Int.emod_lt_of_pos _ (by omega))
      subst e1
      have hmod : (k : Int) % (V.length : Int) = ((k % V.length : Nat) : Int) := rfl
      have htm : (k : Int).tmod (V.length : Int) = ((k % V.length : Nat) : Int) := by rw [Int.tmod_eq_emod_of_nonneg (by omega)]; rfl
      rw [hmod, Int.toNat_natCast] at hx
      have hx3 := (HBp.out.cell (World.block_lt_of_cell? w3 _ hx)).trans hx
      have hgs := around_succ V k
      have hxr : rd V ((k % V.length : Nat) : Int) = V.getD (k % V.length) 0 := rfl
      rw [hxr] at hx3
      generalize V.getD (k % V.length) 0 = x at hx3 hgs
      have HGS := Aside0.mk hgs
      generalize k % V.length = m at hr0 htm hx3 hmod
      have q1 : wr.cell? ⟨w3.heap.size, 1, none⟩ = some v1 := by rw [blk_cell HPB.out 1]; rfl
      obtain ⟨Av, cv, hv1⟩ := Kd.R_slice HR.out
      subst hv1
      have HRd := Aside0.mk (Kd.R_drew HR.out)
      have HLd := Aside0.mk (Kd.R_drew HL.out)
      have HBd := Aside0.mk (below_drew HBp.out)
      have HPBd : Aside0 (wr.drew.heap[w3.heap.size]? = some (.cells #[.slice ALb Lb.length cLb, .slice Av (around V k).length cv] 39 (0, 0))) := ⟨HPB.out⟩
      clear hx hxr hgs
      go_wp2_with fail
      have hvn0 : ((V.length : Int) = 0) = False := eq_false (by omega)
      have hvn1 : ¬ V = [] := by rintro rfl; exact absurd hvpos (Nat.lt_irrefl _)
      have qa : (wr.alloc (.cells #[.int .u8 x] 5)).cell? ⟨w3.heap.size, 1, none⟩ = some (.slice Av (around V k).length cv) := by rw [blk_cell (blk_alloc HPB.out _) 1]; rfl
      have HRAL := Aside0.mk (around_len V k)
      go_region_law (refine Kd.R_append_step (Kd.int .u8) (w0 := w3) w3.heap.size rfl (.tmp 55) (.tmp 63) 27 5 (.int .u8 0) 1 rfl Try.underlying27 info5 rfl (by decide) (by decide) (.slice Av (around V k).length cv) (around V k) x [.int .u8 x] (fun _ => True) (fun _ => False) rfl rfl rfl (fun _ hk => hk.elim) (fun _ _ => trivial) HRd.out HBd.out (below_size HBd.out) (by have := HRAL.out; omega) ?_; intro v1 w64 ho_ hb_ hg_ hat_; clear hat_; rw [← HGS.out] at ho_; have HPB1 := Aside0.mk (blk_grown HPBd.out hg_ (Kd.R_ne HRd.out HPBd.out (by decide))); have HL1 := Aside0.mk (Kd.R_grown2 HLd.out rfl hg_ (fun k_ hk_ => by obtain ⟨cs_, hcs_⟩ := own_typed (Kd.own_of_R HRd.out) k_ hk_; exact Kd.R_ne HLd.out hcs_ (by decide))); obtain ⟨A5, c5, hv_⟩ := Kd.R_slice ho_; subst hv_; have HR1 := Aside0.mk ho_; have HB1 := Aside0.mk hb_; have q64 : w64.cell? ⟨w3.heap.size, 1, none⟩ = some (.slice Av (around V k).length cv) := (by rw [blk_cell HPB1.out 1]; rfl); have f64 : w64.frozen? ⟨w3.heap.size, 1, none⟩ = false := blk_frozen HPB1.out 1; clear ho_ hb_ hg_)
      all_goals go_wp2_with fail
      all_goals
        go_roundg (Lb.length + 1 - (k + 1))
        case measure => have := HG.out; omega
        case rel => exact ⟨k + 1, _, by go_num, ⟨by omega⟩, ⟨blk_set HPB1.out 1 _⟩, ⟨Kd.R_set HL1.out HPB1.out (by decide) 1 _⟩, ⟨Kd.R_set HR1.out HPB1.out (by decide) 1 _⟩, ⟨below_set (j := 1) (v := .slice A5 (around V (k + 1)).length c5) HB1.out (Nat.le_refl _)⟩⟩
    · have hke : k = Lb.length + 1 := by have := HG.out; omega
      subst hke
      have hvsl := around_len V (Lb.length + 1)
      have hvsm := around_mem V (Lb.length + 1) HVp.out
      generalize around V (Lb.length + 1) = VS at HR hvsl hvsm
      have HVL := Aside0.mk hvsl
      have HVM := Aside0.mk hvsm
      obtain ⟨Av, cv, hv1⟩ := Kd.R_slice HR.out
      subst hv1
      have q0 : wr.cell? ⟨w3.heap.size, 0, none⟩ = some (.slice ALb Lb.length cLb) := by rw [blk_cell HPB.out 0]; rfl
      have q1 : wr.cell? ⟨w3.heap.size, 1, none⟩ = some (.slice Av VS.length cv) := by rw [blk_cell HPB.out 1]; rfl
      replace HW := Aside0.mk (Kd.C_below HW.out HBp.out)
      have HRc := Aside0.mk (Kd.R_reads' HR.out).2.2
      replace HB := Aside0.mk (below_step HB.out HBp.out)
      have HDW := Aside0.mk HD.out.1
      have HP1 : Aside0 (Fit [⟨Lb, VS⟩]) := ⟨fit_one (by have := hle.out; omega) (by have := hle.out; omega) (by rw [HPe.out]; exact dots_in HD.out.1 _ _) hvsm⟩
      have HP2 : Aside0 (Fit [⟨[122], [9, 9]⟩]) := ⟨fit_one (by decide) (by decide) (by intro r hr; rw [List.mem_singleton.1 hr]; exact ⟨by decide, by decide⟩) (by decide)⟩
      clear HG hvsl hvsm hk
      go_wp2_with (first
        | ((with_reducible refine gate_dst (N := 68) rfl ?_); (refine Kd.R_lit k39 (w0 := w3) w3.heap.size 39 ?hg (N := 68) ?hd (xs := ([⟨Lb, VS⟩] : List S39)) (inner := [.slice ALb Lb.length cLb, .slice Av VS.length cv]) (ok := fun _ => True) (okp := fun _ => True) ?hr ?hp (fun _ hk => hk) trivial HBp.out (below_size HBp.out) (by simp) ?_; (case hd => rfl); (case hg => rfl); (case hr => first | (go_simp; done) | (go_simp; rfl)); (case hp => exact (Reps.c2 (k39_mkM _ _ _ ⟨Lb, VS⟩ HL.out HR.out) (Reps.none _ _))); intro v_ w68 ho_ hb_ hg_ hat_; clear hat_; obtain ⟨A8, c8, hv_, hl_, hc_⟩ := Kd.R_reads ho_; subst hv_; have HC8 := Aside0.mk hc_; have HC8c := Aside0.mk hl_; have hb := (Below.refl wr.heap.size wr).grown hg_ (Nat.le_refl _) (fun k h => by simp at h); replace HW := Aside0.mk (Kd.C_below HW.out hb); replace HRc := Aside0.mk (Kd.C_below HRc.out hb); replace HPB := Aside0.mk (blk_below HPB.out hb); replace HB := Aside0.mk (below_step HB.out hb); clear ho_ hb_ hg_ hc_ hl_ hb q0 q1))
        | ((with_reducible refine gate_callee (f := 19) rfl ?_); (refine goesL_ (some 69) rfl rfl Try.func19 (by kernel_rfl) rfl #[.slice A8 ([⟨Lb, VS⟩] : List S39).length c8] rfl (by (try simp only [List.map_toArray, List.map_cons, List.map_nil]); first | done | rfl) ?_; refine (make_fit ([⟨Lb, VS⟩] : List S39) A8 c8 _ HC8.out HC8c.out HP1.out).mono ?_; rintro e w69 ⟨bt1, rfl, hT_, hb⟩; refine ⟨_, rfl, ?_⟩; replace HW := Aside0.mk (Kd.C_below HW.out hb); replace HRc := Aside0.mk (Kd.C_below HRc.out hb); replace HPB := Aside0.mk (blk_below HPB.out hb); replace HB := Aside0.mk (below_step HB.out hb); have HT1 := Aside0.mk hT_; clear hT_; clear hb; clear HC8))
        | ((with_reducible refine gate_callee (f := 20) rfl ?_); (refine goesL_ (some 71) rfl rfl Try.func20 (by kernel_rfl) rfl #[.pointer (some ⟨bt1, 0, none⟩), .slice A4 D.length c4] rfl (by (try simp only [List.map_toArray, List.map_cons, List.map_nil]); first | done | rfl) ?_; refine (values_fit ([⟨Lb, VS⟩] : List S39) _ bt1 A4 c4 D _ HT1.out HW.out HWc.out HP1.out HDW.out).mono ?_; rintro e w71 ⟨v_, rfl, hr_, hb⟩; refine ⟨_, rfl, ?_⟩; replace HW := Aside0.mk (Kd.C_below HW.out hb); replace HRc := Aside0.mk (Kd.C_below HRc.out hb); replace HPB := Aside0.mk (blk_below HPB.out hb); replace HB := Aside0.mk (below_step HB.out hb); obtain ⟨X, hx_⟩ : ∃ X, values (make (List.map pq ([⟨Lb, VS⟩] : List S39))) D = X := ⟨_, rfl⟩; rw [hx_] at hr_; have hXl : X.length = D.length + 1 := (by rw [← hx_]; exact values_length _ _); have HXe := Aside0.mk hx_; obtain ⟨A71, c71, hv_, _, hc_⟩ := Kd.R_reads hr_; subst hv_; have HX := Aside0.mk hc_; clear hr_ hc_ hx_; clear hb; clear HT1))
        | ((with_reducible refine gate_dst (N := 72) rfl ?_); (refine Kd.R_lit (Kd.int .i32) (w0 := w71) w71.heap.size 21 ?hg (N := 72) ?hd (xs := ([122] : List Int)) (inner := [.int .i32 122]) (ok := fun _ => True) (okp := fun _ => True) ?hr ?hp (fun _ hk => hk) trivial (Below.refl _ _) (below_size (Below.refl _ _)) (by simp) ?_; (case hd => rfl); (case hg => rfl); (case hr => first | (go_simp; done) | (go_simp; rfl)); (case hp => exact (Reps.one (show Kd.M (Kd.int .i32) _ _ _ 122 [.int .i32 122] from rfl) (Reps.none _ _))); intro v_ w72 ho_ hb_ hg_ hat_; clear hat_; obtain ⟨A72, c72, hv_⟩ := Kd.R_slice ho_; subst hv_; have H72 := Aside0.mk ho_; have HB72 := Aside0.mk hb_; clear ho_ hb_ hg_))
        | ((with_reducible refine gate_dst (N := 73) rfl ?_); (refine Kd.R_lit (Kd.int .u8) (w0 := w71) w71.heap.size 5 ?hg (N := 73) ?hd (xs := ([9, 9] : List Int)) (inner := [.int .u8 9, .int .u8 9]) (ok := fun _ => True) (okp := fun _ => True) ?hr ?hp (fun _ hk => hk) trivial HB72.out (below_size HB72.out) (by simp) ?_; (case hd => rfl); (case hg => rfl); (case hr => first | (go_simp; done) | (go_simp; rfl)); (case hp => exact (Reps.one (show Kd.M (Kd.int .u8) _ _ _ 9 [.int .u8 9] from rfl) ((Reps.one (show Kd.M (Kd.int .u8) _ _ _ 9 [.int .u8 9] from rfl) (Reps.none _ _))))); intro v_ w73 ho_ hb_ hg_ hat_; clear hat_; obtain ⟨A73, c73, hv_⟩ := Kd.R_slice ho_; subst hv_; have H73 := Aside0.mk ho_; have HB73 := Aside0.mk hb_; replace H72 := Aside0.mk (Kd.R_grown H72.out hg_ (fun _ _ => by simp)); clear ho_ hb_ hg_ HB72))
        | ((with_reducible refine gate_dst (N := 75) rfl ?_); (refine Kd.R_lit k39 (w0 := w71) w71.heap.size 39 ?hg (N := 75) ?hd (xs := ([⟨[122], [9, 9]⟩] : List S39)) (inner := [.slice A72 1 c72, .slice A73 2 c73]) (ok := fun _ => True) (okp := fun _ => True) ?hr ?hp (fun _ hk => hk) trivial HB73.out (below_size HB73.out) (by simp) ?_; (case hd => rfl); (case hg => rfl); (case hr => first | (go_simp; done) | (go_simp; rfl)); (case hp => exact (Reps.c2 (k39_mkM _ _ _ ⟨[122], [9, 9]⟩ H72.out H73.out) (Reps.none _ _))); intro v_ w75 ho_ hb_ hg_ hat_; clear hat_; obtain ⟨A75, c75, hv_, hl_, hc_⟩ := Kd.R_reads ho_; subst hv_; have HC9 := Aside0.mk hc_; have HC9c := Aside0.mk hl_; have hb := hb_; replace HW := Aside0.mk (Kd.C_below HW.out hb); replace HRc := Aside0.mk (Kd.C_below HRc.out hb); replace HPB := Aside0.mk (blk_below HPB.out hb); replace HB := Aside0.mk (below_step HB.out hb); replace HX := Aside0.mk (Kd.C_below HX.out hb); clear ho_ hb_ hg_ hc_ hl_ hb H72 H73 HB73))
        | ((with_reducible refine gate_callee (f := 19) rfl ?_); (refine goesL_ (some 76) rfl rfl Try.func19 (by kernel_rfl) rfl #[.slice A75 ([⟨[122], [9, 9]⟩] : List S39).length c75] rfl (by (try simp only [List.map_toArray, List.map_cons, List.map_nil]); first | done | rfl) ?_; refine (make_fit ([⟨[122], [9, 9]⟩] : List S39) A75 c75 _ HC9.out HC9c.out HP2.out).mono ?_; rintro e w76 ⟨bt2, rfl, hT_, hb⟩; refine ⟨_, rfl, ?_⟩; replace HW := Aside0.mk (Kd.C_below HW.out hb); replace HRc := Aside0.mk (Kd.C_below HRc.out hb); replace HPB := Aside0.mk (blk_below HPB.out hb); replace HB := Aside0.mk (below_step HB.out hb); replace HX := Aside0.mk (Kd.C_below HX.out hb); have HT2 := Aside0.mk hT_; clear hT_; clear hb; clear HC9))
        | ((with_reducible refine gate_callee (f := 20) rfl ?_); (refine goesL_ (some 78) rfl rfl Try.func20 (by kernel_rfl) rfl #[.pointer (some ⟨bt2, 0, none⟩), .slice A4 D.length c4] rfl (by (try simp only [List.map_toArray, List.map_cons, List.map_nil]); first | done | rfl) ?_; refine (values_fit ([⟨[122], [9, 9]⟩] : List S39) _ bt2 A4 c4 D _ HT2.out HW.out HWc.out HP2.out HDW.out).mono ?_; rintro e w78 ⟨v_, rfl, hr_, hb⟩; refine ⟨_, rfl, ?_⟩; replace HW := Aside0.mk (Kd.C_below HW.out hb); replace HRc := Aside0.mk (Kd.C_below HRc.out hb); replace HPB := Aside0.mk (blk_below HPB.out hb); replace HB := Aside0.mk (below_step HB.out hb); replace HX := Aside0.mk (Kd.C_below HX.out hb); obtain ⟨Y, hx_⟩ : ∃ X, values (make (List.map pq ([⟨[122], [9, 9]⟩] : List S39))) D = X := ⟨_, rfl⟩; rw [hx_] at hr_; have hYl : Y.length = D.length + 1 := (by rw [← hx_]; exact values_length _ _); have HYe := Aside0.mk hx_; obtain ⟨A78, c78, hv_, _, hc_⟩ := Kd.R_reads hr_; subst hv_; have HY := Aside0.mk hc_; clear hr_ hc_ hx_; clear hb; clear HT2)))
      have HXb : Aside0 (∀ i : Nat, i < D.length + 1 → rd X (i : Int) = rd VS ((i : Int) + 1)) := ⟨fun i hi => by
        have hb : Best [(Lb, VS)] (46 :: D ++ [46]) X := HXe.out ▸ values_best _ HP1.out.nn D
        have := alone_best (D := D) true false HPe.out hne (fun r hr => by rcases HD.out.2.2 r hr with h | h | h <;> rw [h] <;> decide) (NN.of_mem HVM.out) hb i (by omega)
        exact this⟩
      have HYb : Aside0 (∀ i : Nat, i < D.length + 1 → rd Y (i : Int) = 0) := ⟨fun i hi => by
        have hb : Best [([122], [9, 9])] (46 :: D ++ [46]) Y := HYe.out ▸ values_best _ HP2.out.nn D
        exact none_best (D := D) (fun r hr => by rcases HD.out.2.2 r hr with h | h | h <;> rw [h] <;> decide) hb i (by omega)⟩
      have q1 : w78.cell? ⟨w3.heap.size, 1, none⟩ = some (.slice Av VS.length cv) := by rw [blk_cell HPB.out 1]; rfl
      go_loopg [12, 95] (D.length + 1) (fun g v12 v95 w' => ∃ i : Nat, v95 = .int .i64 i ∧ Aside0 (g + i = D.length + 1) ∧ ∃ n, w' = w78.drewN n)
      case atStart => exact ⟨0, rfl, ⟨rfl⟩, 0, rfl⟩
      case round =>
        obtain ⟨i, rfl, HG, nd, rfl⟩ := hrel
        by_cases hi : i < D.length + 1
        · have p1 : (0 : Int) ≤ (i : Int) := by omega
          have hvl : VS.length = D.length + 1 + 0 + 1 := by have := HVL.out; have := hle.out; omega
          obtain ⟨ax, ex, hx⟩ := Kd.at_int HX.out (i : Int) p1 (by omega)
          obtain ⟨ay, ey, hy⟩ := Kd.at_int HY.out (i : Int) p1 (by omega)
          obtain ⟨av, ev, hv⟩ := Kd.at_int HRc.out ((i : Int) + 1) (by omega) (by omega)
          subst ex ey ev
          rw [HXb.out i hi] at hx
          rw [HYb.out i hi] at hy
          generalize rd VS ((i : Int) + 1) = x at hx hv
          rw [show ((i : Int) + 1).toNat = i + 1 by omega] at hv
          replace hv : w78.cell? ⟨av.block, av.off + (i + 1), none⟩ = some (.int .u8 x) := by simpa [Addr.add] using hv
          rw [Int.toNat_natCast] at hx hy
          have p2 : (0 : Int) ≤ ((i : Int) + 1) := by omega
          have q2 : decide (((i : Int) + 1) < (VS.length : Int)) = true := decide_eq_true (by omega)
          have q3 : ((i : Int) + 1) < (VS.length : Int) := by omega
          have q0 : decide ((0 : Int) ≤ (i : Int)) = true := decide_eq_true p1
          have HVl := Aside0.mk hvl
          clear hvl
          go_wp2_with fail
          go_region
          all_goals go_wp2_with fail
          all_goals
            go_roundg (D.length + 1 - (i + 1))
            case measure => have := HG.out; omega
            case rel => exact ⟨i + 1, by go_num, ⟨by omega⟩, _, rfl⟩
        · have hie : i = D.length + 1 := by have := HG.out; omega
          subst hie
          clear HG hi
          go_wp2_with fail
          go_ret
          exact ⟨rfl, pw_below_drewN HB.out _⟩



set_option maxHeartbeats 4000000 in
set_option maxRecDepth 100000 in
theorem trieAlone_NT (wd : List Int) (A : Option Addr) (c : Nat) (V : List Int) (A2 : Option Addr) (c2 : Nat) (dots : Int) (w : World)
    (hw : Kd.C (Kd.int .i32) w A wd.length wd) (hwc : wd.length ≤ c) (p1 : ∀ r ∈ wd, In32 r) (hv : Kd.C (Kd.int .u8) w A2 V.length V) (hvc : V.length ≤ c2) (p2 : ∀ r ∈ V, 0 ≤ r ∧ r ≤ 255)
    (hda : (bits BinOp.and IntKind.u8 dots 1 == 1) = false) (hdb : (bits BinOp.and IntKind.u8 dots 2 == 2) = true) (hz : (((Lf.word true wd).length : Int) == 0) = false) (hne : ¬ Lf.word true wd = []) (hzv : ((V.length : Int) == 0) = false) :
    Calls Try.prog 10 #[.slice A wd.length c, .slice A2 V.length c2, .int .u8 dots] w fun e w' => e = .returned (.bool true) ∧ Below w.heap.size w w' := by
  have HW := Aside0.mk hw
  have HWc := Aside0.mk hwc
  have HV := Aside0.mk hv
  have HVc := Aside0.mk hvc
  have hvm : V.length ≤ 9223372036854775807 := Kd.C_max hv
  have HVp : Aside0 (∀ x ∈ V, 0 ≤ x) := ⟨fun x hx => (p2 x hx).1⟩
  have HD : Aside0 (Word (Lf.word true wd) ∧ (Lf.word true wd).length ≤ 60 ∧ ∀ r ∈ Lf.word true wd, r = 97 ∨ r = 98 ∨ r = 99) := ⟨word_fit true wd p1, word_len _ _, word_letters wd⟩
  clear hw hwc hv hvc p1 p2
  go_enter Try.func10, Try.ntmps10
  go_wp2_with (first
    | ((with_reducible refine gate_callee (f := 16) rfl ?_); (refine goesL_ (some 13) rfl rfl Try.func16 (by kernel_rfl) rfl #[] rfl (by (try simp only [List.map_toArray, List.map_cons, List.map_nil]); first | done | rfl) ?_; refine (awake_calls _).mono ?_; rintro e w1 ⟨rfl, hb⟩; refine ⟨_, rfl, ?_⟩; replace HW := Aside0.mk (Kd.C_below HW.out hb); replace HV := Aside0.mk (Kd.C_below HV.out hb); have HB := Aside0.mk hb; clear hb))
    | ((with_reducible refine gate_callee (f := 18) rfl ?_); (refine goesL_ (some 16) rfl rfl Try.func18 (by kernel_rfl) rfl #[.slice A wd.length c, .bool true] rfl (by (try simp only [List.map_toArray, List.map_cons, List.map_nil]); first | done | rfl) ?_; refine (Lf.word_calls A c wd true _ HW.out HWc.out).mono ?_; rintro e w3 ⟨v_, rfl, hr_, hb⟩; refine ⟨_, rfl, ?_⟩; replace HV := Aside0.mk (Kd.C_below HV.out hb); replace HB := Aside0.mk (below_step HB.out hb); obtain ⟨A4, c4, hv_, hl_, hc_⟩ := Kd.R_reads hr_; subst hv_; replace HW := Aside0.mk hc_; replace HWc := Aside0.mk hl_; clear hr_ hl_ hc_; generalize Lf.word true wd = D at HW HWc HD hz hne ⊢; clear hb); have hd3 := HD.out.2.1)
    | ((with_reducible refine gate_builtin (b := .append) (xs := #[.tmp 35, .tmp 36]) rfl ?_); at_builtin; (refine Kd.R_append_rows (Kd.int .i32) (w0 := w3) w3.heap.size rfl (.tmp 35) (.tmp 36) 23 21 (.int .i32 0) 4 rfl Try.underlying23 info21 rfl (by decide) (by decide) (.slice none 0 0) ([] : List Int) D A4 D.length c4 (fun _ => True) (fun _ => False) rfl rfl (Kd.R_nil _ _ _ _ _) (Kd.C_below HW.out (below_alloc (Below.refl _ _) _)) (fun _ _ h => h) (fun _ h => h.elim) (fun _ _ => trivial) (below_alloc (Below.refl _ _) _) (below_size (below_alloc (Below.refl _ _) _)) (by  simp; try omega) ?_; intro vLb wLb ho_ hb_ hg_ hat_; clear hat_; obtain ⟨Lb, hLb⟩ : ∃ L, ([] : List Int) ++ D = L := ⟨_, rfl⟩; rw [hLb] at ho_; have hlLb : Aside0 (Lb.length = 0 + D.length) := ⟨by rw [← hLb, List.length_append]; rfl⟩; have HPB := Aside0.mk (blk_grown (blk_new _ _) hg_ (by simp [Value.ownBlock])); obtain ⟨ALb, cLb, hv_⟩ := Kd.R_slice ho_; subst hv_; have HL := Aside0.mk ho_; have HBp := Aside0.mk hb_; have HLb := Aside0.mk hLb; clear ho_ hb_ hg_ hLb))
    | ((refine gate_ (.store 23 (.tmp 38) (.tmp 37)) rfl ?_; refine store1 (u := .slice ALb Lb.length cLb) rfl rfl 23 (.tmp 38) (.tmp 37) rfl rfl rfl rfl size23 rfl HPB.out (by simp) ?_; intro wsLb hws_; replace HL := Aside0.mk (Kd.R_set HL.out HPB.out (by decide) 0 (.slice ALb Lb.length cLb)); replace HPB := Aside0.mk (blk_set HPB.out 0 (.slice ALb Lb.length cLb)); replace HBp := Aside0.mk (below_set (j := 0) (v := .slice ALb Lb.length cLb) HBp.out (Nat.le_refl _)); rw [← hws_] at HL HPB HBp; have qLb : wsLb.cell? ⟨w3.heap.size, 0, none⟩ = some (.slice ALb Lb.length cLb) := (by rw [blk_cell HPB.out 0]; rfl); clear hws_))
    | ((with_reducible refine gate_dst (N := 44) rfl ?_); (refine Kd.R_lit (Kd.int .i32) (w0 := w3) w3.heap.size 21 ?hg (N := 44) ?hd (xs := ([46] : List Int)) (inner := [.int .i32 46]) (ok := fun _ => True) (okp := fun _ => True) ?hr ?hp (fun _ hk => hk) trivial HBp.out (below_size HBp.out) (by simp) ?_; (case hd => rfl); (case hg => rfl); (case hr => first | (go_simp; done) | (go_simp; rfl)); (case hp => exact (Reps.one (show Kd.M (Kd.int .i32) _ _ _ 46 [.int .i32 46] from rfl) (Reps.none _ _))); intro v_ wLci ho_ hb_ hg_ hat_; clear hat_; obtain ⟨AiLc, ciLc, hv_, _, hc_⟩ := Kd.R_reads ho_; subst hv_; have HI := Aside0.mk hc_; replace HPB := Aside0.mk (blk_grown HPB.out hg_ (by simp)); replace HL := Aside0.mk (Kd.R_grown HL.out hg_ (fun _ _ => by simp)); replace HBp := Aside0.mk hb_; clear ho_ hb_ hg_ hc_))
    | ((with_reducible refine gate_builtin (b := .append) (xs := #[.tmp 43, .tmp 44]) rfl ?_); at_builtin; (refine Kd.R_append_rows (Kd.int .i32) (w0 := w3) w3.heap.size rfl (.tmp 43) (.tmp 44) 23 21 (.int .i32 0) 4 rfl Try.underlying23 info21 rfl (by decide) (by decide) (.slice ALb Lb.length cLb) Lb [46] AiLc 1 ciLc (fun _ => True) (fun _ => False) rfl rfl HL.out HI.out (fun _ _ h => h) (fun _ h => h.elim) (fun _ _ => trivial) HBp.out (below_size HBp.out) (by have := hlLb.out;  simp; try omega) ?_; intro vLc wLc ho_ hb_ hg_ hat_; clear hat_; obtain ⟨Lc, hLc⟩ : ∃ L, Lb ++ [46] = L := ⟨_, rfl⟩; rw [hLc] at ho_; have hlLc : Aside0 (Lc.length = Lb.length + 1) := ⟨by rw [← hLc, List.length_append]; rfl⟩; replace HPB := Aside0.mk (blk_grown HPB.out hg_ (Kd.R_ne HL.out HPB.out (by decide))); obtain ⟨ALc, cLc, hv_⟩ := Kd.R_slice ho_; subst hv_; replace HL := Aside0.mk ho_; replace HBp := Aside0.mk hb_; have HLc := Aside0.mk hLc; clear ho_ hb_ hg_ hLc HI))
    | ((refine gate_ (.store 23 (.tmp 46) (.tmp 45)) rfl ?_; refine store1 (u := .slice ALc Lc.length cLc) rfl rfl 23 (.tmp 46) (.tmp 45) rfl rfl rfl rfl size23 rfl HPB.out (by simp) ?_; intro wsLc hws_; replace HL := Aside0.mk (Kd.R_set HL.out HPB.out (by decide) 0 (.slice ALc Lc.length cLc)); replace HPB := Aside0.mk (blk_set HPB.out 0 (.slice ALc Lc.length cLc)); replace HBp := Aside0.mk (below_set (j := 0) (v := .slice ALc Lc.length cLc) HBp.out (Nat.le_refl _)); rw [← hws_] at HL HPB HBp; have qLc : wsLc.cell? ⟨w3.heap.size, 0, none⟩ = some (.slice ALc Lc.length cLc) := (by rw [blk_cell HPB.out 0]; rfl); clear hws_); have hL62 : Lc.length ≤ 62 := (by have := hlLb.out; have := hlLc.out; omega)))
  have hle : Aside0 (Lc.length ≤ 62 ∧ Lc.length = D.length + 0 + 1) := ⟨by have := hlLb.out; have := hlLc.out; omega⟩
  have HPe : Aside0 (Lc = dotted false true D) := ⟨by rw [← HLc.out, ← HLb.out]; simp [dotted]⟩
  clear qLb; clear qLc
  go_loopg [9, 51] (Lc.length + 1) (fun g v9 v51 w' => ∃ (k : Nat) (v1 : Value), v51 = .int .i64 k ∧ Aside0 (g + k = Lc.length + 1) ∧ Aside0 (w'.heap[w3.heap.size]? = some (.cells #[.slice ALc Lc.length cLc, v1] 39 (0, 0))) ∧ Aside0 (Kd.R (Kd.int .i32) 21 w' w3.heap.size (fun _ => True) (.slice ALc Lc.length cLc) Lc) ∧ Aside0 (Kd.R (Kd.int .u8) 5 w' w3.heap.size (fun _ => True) v1 (around V k)) ∧ Aside0 (Below w3.heap.size w3 w'))
  case atStart => exact ⟨0, .slice none 0 0, rfl, ⟨rfl⟩, HPB, HL, ⟨Kd.R_nil _ _ _ _ _⟩, HBp⟩
  case round =>
    clear HPB HL HBp
    obtain ⟨k, v1, rfl, HG, HPB, HL, HR, HBp⟩ := hrel
    by_cases hk : k < Lc.length + 1
    · have hk62 : k ≤ 62 := by have := hle.out; omega
      have hvpos : 0 < V.length := by
        have : ¬ (V.length : Int) = 0 := by simpa using hzv
        omega
      have hr0 : k % V.length < V.length := Nat.mod_lt _ hvpos
      obtain ⟨ad, e1, hx⟩ := Kd.at_int HV.out ((k : Int) % (V.length : Int)) (Int.emod_nonneg _ (by omega)) (Int.emod_lt_of_pos _ (by omega))
      subst e1
      have hmod : (k : Int) % (V.length : Int) = ((k % V.length : Nat) : Int) := rfl
      have htm : (k : Int).tmod (V.length : Int) = ((k % V.length : Nat) : Int) := by rw [Int.tmod_eq_emod_of_nonneg (by omega)]; rfl
      rw [hmod, Int.toNat_natCast] at hx
      have hx3 := (HBp.out.cell (World.block_lt_of_cell? w3 _ hx)).trans hx
      have hgs := around_succ V k
      have hxr : rd V ((k % V.length : Nat) : Int) = V.getD (k % V.length) 0 := rfl
      rw [hxr] at hx3
      generalize V.getD (k % V.length) 0 = x at hx3 hgs
      have HGS := Aside0.mk hgs
      generalize k % V.length = m at hr0 htm hx3 hmod
      have q1 : wr.cell? ⟨w3.heap.size, 1, none⟩ = some v1 := by rw [blk_cell HPB.out 1]; rfl
      obtain ⟨Av, cv, hv1⟩ := Kd.R_slice HR.out
      subst hv1
      have HRd := Aside0.mk (Kd.R_drew HR.out)
      have HLd := Aside0.mk (Kd.R_drew HL.out)
      have HBd := Aside0.mk (below_drew HBp.out)
      have HPBd : Aside0 (wr.drew.heap[w3.heap.size]? = some (.cells #[.slice ALc Lc.length cLc, .slice Av (around V k).length cv] 39 (0, 0))) := ⟨HPB.out⟩
      clear hx hxr hgs
      go_wp2_with fail
      have hvn0 : ((V.length : Int) = 0) = False := eq_false (by omega)
      have hvn1 : ¬ V = [] := by rintro rfl; exact absurd hvpos (Nat.lt_irrefl _)
      have qa : (wr.alloc (.cells #[.int .u8 x] 5)).cell? ⟨w3.heap.size, 1, none⟩ = some (.slice Av (around V k).length cv) := by rw [blk_cell (blk_alloc HPB.out _) 1]; rfl
      have HRAL := Aside0.mk (around_len V k)
      go_region_law (refine Kd.R_append_step (Kd.int .u8) (w0 := w3) w3.heap.size rfl (.tmp 55) (.tmp 63) 27 5 (.int .u8 0) 1 rfl Try.underlying27 info5 rfl (by decide) (by decide) (.slice Av (around V k).length cv) (around V k) x [.int .u8 x] (fun _ => True) (fun _ => False) rfl rfl rfl (fun _ hk => hk.elim) (fun _ _ => trivial) HRd.out HBd.out (below_size HBd.out) (by have := HRAL.out; omega) ?_; intro v1 w64 ho_ hb_ hg_ hat_; clear hat_; rw [← HGS.out] at ho_; have HPB1 := Aside0.mk (blk_grown HPBd.out hg_ (Kd.R_ne HRd.out HPBd.out (by decide))); have HL1 := Aside0.mk (Kd.R_grown2 HLd.out rfl hg_ (fun k_ hk_ => by obtain ⟨cs_, hcs_⟩ := own_typed (Kd.own_of_R HRd.out) k_ hk_; exact Kd.R_ne HLd.out hcs_ (by decide))); obtain ⟨A5, c5, hv_⟩ := Kd.R_slice ho_; subst hv_; have HR1 := Aside0.mk ho_; have HB1 := Aside0.mk hb_; have q64 : w64.cell? ⟨w3.heap.size, 1, none⟩ = some (.slice Av (around V k).length cv) := (by rw [blk_cell HPB1.out 1]; rfl); have f64 : w64.frozen? ⟨w3.heap.size, 1, none⟩ = false := blk_frozen HPB1.out 1; clear ho_ hb_ hg_)
      all_goals go_wp2_with fail
      all_goals
        go_roundg (Lc.length + 1 - (k + 1))
        case measure => have := HG.out; omega
        case rel => exact ⟨k + 1, _, by go_num, ⟨by omega⟩, ⟨blk_set HPB1.out 1 _⟩, ⟨Kd.R_set HL1.out HPB1.out (by decide) 1 _⟩, ⟨Kd.R_set HR1.out HPB1.out (by decide) 1 _⟩, ⟨below_set (j := 1) (v := .slice A5 (around V (k + 1)).length c5) HB1.out (Nat.le_refl _)⟩⟩
    · have hke : k = Lc.length + 1 := by have := HG.out; omega
      subst hke
      have hvsl := around_len V (Lc.length + 1)
      have hvsm := around_mem V (Lc.length + 1) HVp.out
      generalize around V (Lc.length + 1) = VS at HR hvsl hvsm
      have HVL := Aside0.mk hvsl
      have HVM := Aside0.mk hvsm
      obtain ⟨Av, cv, hv1⟩ := Kd.R_slice HR.out
      subst hv1
      have q0 : wr.cell? ⟨w3.heap.size, 0, none⟩ = some (.slice ALc Lc.length cLc) := by rw [blk_cell HPB.out 0]; rfl
      have q1 : wr.cell? ⟨w3.heap.size, 1, none⟩ = some (.slice Av VS.length cv) := by rw [blk_cell HPB.out 1]; rfl
      replace HW := Aside0.mk (Kd.C_below HW.out HBp.out)
      have HRc := Aside0.mk (Kd.R_reads' HR.out).2.2
      replace HB := Aside0.mk (below_step HB.out HBp.out)
      have HDW := Aside0.mk HD.out.1
      have HP1 : Aside0 (Fit [⟨Lc, VS⟩]) := ⟨fit_one (by have := hle.out; omega) (by have := hle.out; omega) (by rw [HPe.out]; exact dots_in HD.out.1 _ _) hvsm⟩
      have HP2 : Aside0 (Fit [⟨[122], [9, 9]⟩]) := ⟨fit_one (by decide) (by decide) (by intro r hr; rw [List.mem_singleton.1 hr]; exact ⟨by decide, by decide⟩) (by decide)⟩
      clear HG hvsl hvsm hk
      go_wp2_with (first
        | ((with_reducible refine gate_dst (N := 68) rfl ?_); (refine Kd.R_lit k39 (w0 := w3) w3.heap.size 39 ?hg (N := 68) ?hd (xs := ([⟨Lc, VS⟩] : List S39)) (inner := [.slice ALc Lc.length cLc, .slice Av VS.length cv]) (ok := fun _ => True) (okp := fun _ => True) ?hr ?hp (fun _ hk => hk) trivial HBp.out (below_size HBp.out) (by simp) ?_; (case hd => rfl); (case hg => rfl); (case hr => first | (go_simp; done) | (go_simp; rfl)); (case hp => exact (Reps.c2 (k39_mkM _ _ _ ⟨Lc, VS⟩ HL.out HR.out) (Reps.none _ _))); intro v_ w68 ho_ hb_ hg_ hat_; clear hat_; obtain ⟨A8, c8, hv_, hl_, hc_⟩ := Kd.R_reads ho_; subst hv_; have HC8 := Aside0.mk hc_; have HC8c := Aside0.mk hl_; have hb := (Below.refl wr.heap.size wr).grown hg_ (Nat.le_refl _) (fun k h => by simp at h); replace HW := Aside0.mk (Kd.C_below HW.out hb); replace HRc := Aside0.mk (Kd.C_below HRc.out hb); replace HPB := Aside0.mk (blk_below HPB.out hb); replace HB := Aside0.mk (below_step HB.out hb); clear ho_ hb_ hg_ hc_ hl_ hb q0 q1))
        | ((with_reducible refine gate_callee (f := 19) rfl ?_); (refine goesL_ (some 69) rfl rfl Try.func19 (by kernel_rfl) rfl #[.slice A8 ([⟨Lc, VS⟩] : List S39).length c8] rfl (by (try simp only [List.map_toArray, List.map_cons, List.map_nil]); first | done | rfl) ?_; refine (make_fit ([⟨Lc, VS⟩] : List S39) A8 c8 _ HC8.out HC8c.out HP1.out).mono ?_; rintro e w69 ⟨bt1, rfl, hT_, hb⟩; refine ⟨_, rfl, ?_⟩; replace HW := Aside0.mk (Kd.C_below HW.out hb); replace HRc := Aside0.mk (Kd.C_below HRc.out hb); replace HPB := Aside0.mk (blk_below HPB.out hb); replace HB := Aside0.mk (below_step HB.out hb); have HT1 := Aside0.mk hT_; clear hT_; clear hb; clear HC8))
        | ((with_reducible refine gate_callee (f := 20) rfl ?_); (refine goesL_ (some 71) rfl rfl Try.func20 (by kernel_rfl) rfl #[.pointer (some ⟨bt1, 0, none⟩), .slice A4 D.length c4] rfl (by (try simp only [List.map_toArray, List.map_cons, List.map_nil]); first | done | rfl) ?_; refine (values_fit ([⟨Lc, VS⟩] : List S39) _ bt1 A4 c4 D _ HT1.out HW.out HWc.out HP1.out HDW.out).mono ?_; rintro e w71 ⟨v_, rfl, hr_, hb⟩; refine ⟨_, rfl, ?_⟩; replace HW := Aside0.mk (Kd.C_below HW.out hb); replace HRc := Aside0.mk (Kd.C_below HRc.out hb); replace HPB := Aside0.mk (blk_below HPB.out hb); replace HB := Aside0.mk (below_step HB.out hb); obtain ⟨X, hx_⟩ : ∃ X, values (make (List.map pq ([⟨Lc, VS⟩] : List S39))) D = X := ⟨_, rfl⟩; rw [hx_] at hr_; have hXl : X.length = D.length + 1 := (by rw [← hx_]; exact values_length _ _); have HXe := Aside0.mk hx_; obtain ⟨A71, c71, hv_, _, hc_⟩ := Kd.R_reads hr_; subst hv_; have HX := Aside0.mk hc_; clear hr_ hc_ hx_; clear hb; clear HT1))
        | ((with_reducible refine gate_dst (N := 72) rfl ?_); (refine Kd.R_lit (Kd.int .i32) (w0 := w71) w71.heap.size 21 ?hg (N := 72) ?hd (xs := ([122] : List Int)) (inner := [.int .i32 122]) (ok := fun _ => True) (okp := fun _ => True) ?hr ?hp (fun _ hk => hk) trivial (Below.refl _ _) (below_size (Below.refl _ _)) (by simp) ?_; (case hd => rfl); (case hg => rfl); (case hr => first | (go_simp; done) | (go_simp; rfl)); (case hp => exact (Reps.one (show Kd.M (Kd.int .i32) _ _ _ 122 [.int .i32 122] from rfl) (Reps.none _ _))); intro v_ w72 ho_ hb_ hg_ hat_; clear hat_; obtain ⟨A72, c72, hv_⟩ := Kd.R_slice ho_; subst hv_; have H72 := Aside0.mk ho_; have HB72 := Aside0.mk hb_; clear ho_ hb_ hg_))
        | ((with_reducible refine gate_dst (N := 73) rfl ?_); (refine Kd.R_lit (Kd.int .u8) (w0 := w71) w71.heap.size 5 ?hg (N := 73) ?hd (xs := ([9, 9] : List Int)) (inner := [.int .u8 9, .int .u8 9]) (ok := fun _ => True) (okp := fun _ => True) ?hr ?hp (fun _ hk => hk) trivial HB72.out (below_size HB72.out) (by simp) ?_; (case hd => rfl); (case hg => rfl); (case hr => first | (go_simp; done) | (go_simp; rfl)); (case hp => exact (Reps.one (show Kd.M (Kd.int .u8) _ _ _ 9 [.int .u8 9] from rfl) ((Reps.one (show Kd.M (Kd.int .u8) _ _ _ 9 [.int .u8 9] from rfl) (Reps.none _ _))))); intro v_ w73 ho_ hb_ hg_ hat_; clear hat_; obtain ⟨A73, c73, hv_⟩ := Kd.R_slice ho_; subst hv_; have H73 := Aside0.mk ho_; have HB73 := Aside0.mk hb_; replace H72 := Aside0.mk (Kd.R_grown H72.out hg_ (fun _ _ => by simp)); clear ho_ hb_ hg_ HB72))
        | ((with_reducible refine gate_dst (N := 75) rfl ?_); (refine Kd.R_lit k39 (w0 := w71) w71.heap.size 39 ?hg (N := 75) ?hd (xs := ([⟨[122], [9, 9]⟩] : List S39)) (inner := [.slice A72 1 c72, .slice A73 2 c73]) (ok := fun _ => True) (okp := fun _ => True) ?hr ?hp (fun _ hk => hk) trivial HB73.out (below_size HB73.out) (by simp) ?_; (case hd => rfl); (case hg => rfl); (case hr => first | (go_simp; done) | (go_simp; rfl)); (case hp => exact (Reps.c2 (k39_mkM _ _ _ ⟨[122], [9, 9]⟩ H72.out H73.out) (Reps.none _ _))); intro v_ w75 ho_ hb_ hg_ hat_; clear hat_; obtain ⟨A75, c75, hv_, hl_, hc_⟩ := Kd.R_reads ho_; subst hv_; have HC9 := Aside0.mk hc_; have HC9c := Aside0.mk hl_; have hb := hb_; replace HW := Aside0.mk (Kd.C_below HW.out hb); replace HRc := Aside0.mk (Kd.C_below HRc.out hb); replace HPB := Aside0.mk (blk_below HPB.out hb); replace HB := Aside0.mk (below_step HB.out hb); replace HX := Aside0.mk (Kd.C_below HX.out hb); clear ho_ hb_ hg_ hc_ hl_ hb H72 H73 HB73))
        | ((with_reducible refine gate_callee (f := 19) rfl ?_); (refine goesL_ (some 76) rfl rfl Try.func19 (by kernel_rfl) rfl #[.slice A75 ([⟨[122], [9, 9]⟩] : List S39).length c75] rfl (by (try simp only [List.map_toArray, List.map_cons, List.map_nil]); first | done | rfl) ?_; refine (make_fit ([⟨[122], [9, 9]⟩] : List S39) A75 c75 _ HC9.out HC9c.out HP2.out).mono ?_; rintro e w76 ⟨bt2, rfl, hT_, hb⟩; refine ⟨_, rfl, ?_⟩; replace HW := Aside0.mk (Kd.C_below HW.out hb); replace HRc := Aside0.mk (Kd.C_below HRc.out hb); replace HPB := Aside0.mk (blk_below HPB.out hb); replace HB := Aside0.mk (below_step HB.out hb); replace HX := Aside0.mk (Kd.C_below HX.out hb); have HT2 := Aside0.mk hT_; clear hT_; clear hb; clear HC9))
        | ((with_reducible refine gate_callee (f := 20) rfl ?_); (refine goesL_ (some 78) rfl rfl Try.func20 (by kernel_rfl) rfl #[.pointer (some ⟨bt2, 0, none⟩), .slice A4 D.length c4] rfl (by (try simp only [List.map_toArray, List.map_cons, List.map_nil]); first | done | rfl) ?_; refine (values_fit ([⟨[122], [9, 9]⟩] : List S39) _ bt2 A4 c4 D _ HT2.out HW.out HWc.out HP2.out HDW.out).mono ?_; rintro e w78 ⟨v_, rfl, hr_, hb⟩; refine ⟨_, rfl, ?_⟩; replace HW := Aside0.mk (Kd.C_below HW.out hb); replace HRc := Aside0.mk (Kd.C_below HRc.out hb); replace HPB := Aside0.mk (blk_below HPB.out hb); replace HB := Aside0.mk (below_step HB.out hb); replace HX := Aside0.mk (Kd.C_below HX.out hb); obtain ⟨Y, hx_⟩ : ∃ X, values (make (List.map pq ([⟨[122], [9, 9]⟩] : List S39))) D = X := ⟨_, rfl⟩; rw [hx_] at hr_; have hYl : Y.length = D.length + 1 := (by rw [← hx_]; exact values_length _ _); have HYe := Aside0.mk hx_; obtain ⟨A78, c78, hv_, _, hc_⟩ := Kd.R_reads hr_; subst hv_; have HY := Aside0.mk hc_; clear hr_ hc_ hx_; clear hb; clear HT2)))
      have HXb : Aside0 (∀ i : Nat, i < D.length + 1 → rd X (i : Int) = rd VS ((i : Int))) := ⟨fun i hi => by
        have hb : Best [(Lc, VS)] (46 :: D ++ [46]) X := HXe.out ▸ values_best _ HP1.out.nn D
        have := alone_best (D := D) false true HPe.out hne (fun r hr => by rcases HD.out.2.2 r hr with h | h | h <;> rw [h] <;> decide) (NN.of_mem HVM.out) hb i (by omega)
        exact this⟩
      have HYb : Aside0 (∀ i : Nat, i < D.length + 1 → rd Y (i : Int) = 0) := ⟨fun i hi => by
        have hb : Best [([122], [9, 9])] (46 :: D ++ [46]) Y := HYe.out ▸ values_best _ HP2.out.nn D
        exact none_best (D := D) (fun r hr => by rcases HD.out.2.2 r hr with h | h | h <;> rw [h] <;> decide) hb i (by omega)⟩
      have q1 : w78.cell? ⟨w3.heap.size, 1, none⟩ = some (.slice Av VS.length cv) := by rw [blk_cell HPB.out 1]; rfl
      go_loopg [12, 95] (D.length + 1) (fun g v12 v95 w' => ∃ i : Nat, v95 = .int .i64 i ∧ Aside0 (g + i = D.length + 1) ∧ ∃ n, w' = w78.drewN n)
      case atStart => exact ⟨0, rfl, ⟨rfl⟩, 0, rfl⟩
      case round =>
        obtain ⟨i, rfl, HG, nd, rfl⟩ := hrel
        by_cases hi : i < D.length + 1
        · have p1 : (0 : Int) ≤ (i : Int) := by omega
          have hvl : VS.length = D.length + 0 + 1 + 1 := by have := HVL.out; have := hle.out; omega
          obtain ⟨ax, ex, hx⟩ := Kd.at_int HX.out (i : Int) p1 (by omega)
          obtain ⟨ay, ey, hy⟩ := Kd.at_int HY.out (i : Int) p1 (by omega)
          obtain ⟨av, ev, hv⟩ := Kd.at_int HRc.out ((i : Int)) (by omega) (by omega)
          subst ex ey ev
          rw [HXb.out i hi] at hx
          rw [HYb.out i hi] at hy
          generalize rd VS ((i : Int)) = x at hx hv
          rw [Int.toNat_natCast] at hv
          rw [Int.toNat_natCast] at hx hy
          have p2 : (0 : Int) ≤ ((i : Int)) := by omega
          have q2 : decide (((i : Int)) < (VS.length : Int)) = true := decide_eq_true (by omega)
          have q3 : ((i : Int)) < (VS.length : Int) := by omega
          have q0 : decide ((0 : Int) ≤ (i : Int)) = true := decide_eq_true p1
          have HVl := Aside0.mk hvl
          clear hvl
          go_wp2_with fail
          go_region
          all_goals go_wp2_with fail
          all_goals
            go_roundg (D.length + 1 - (i + 1))
            case measure => have := HG.out; omega
            case rel => exact ⟨i + 1, by go_num, ⟨by omega⟩, _, rfl⟩
        · have hie : i = D.length + 1 := by have := HG.out; omega
          subst hie
          clear HG hi
          go_wp2_with fail
          go_ret
          exact ⟨rfl, pw_below_drewN HB.out _⟩



set_option maxHeartbeats 4000000 in
set_option maxRecDepth 100000 in
theorem trieAlone_NN (wd : List Int) (A : Option Addr) (c : Nat) (V : List Int) (A2 : Option Addr) (c2 : Nat) (dots : Int) (w : World)
    (hw : Kd.C (Kd.int .i32) w A wd.length wd) (hwc : wd.length ≤ c) (p1 : ∀ r ∈ wd, In32 r) (hv : Kd.C (Kd.int .u8) w A2 V.length V) (hvc : V.length ≤ c2) (p2 : ∀ r ∈ V, 0 ≤ r ∧ r ≤ 255)
    (hda : (bits BinOp.and IntKind.u8 dots 1 == 1) = false) (hdb : (bits BinOp.and IntKind.u8 dots 2 == 2) = false) (hz : (((Lf.word true wd).length : Int) == 0) = false) (hne : ¬ Lf.word true wd = []) (hzv : ((V.length : Int) == 0) = false) :
    Calls Try.prog 10 #[.slice A wd.length c, .slice A2 V.length c2, .int .u8 dots] w fun e w' => e = .returned (.bool true) ∧ Below w.heap.size w w' := by
  have HW := Aside0.mk hw
  have HWc := Aside0.mk hwc
  have HV := Aside0.mk hv
  have HVc := Aside0.mk hvc
  have hvm : V.length ≤ 9223372036854775807 := Kd.C_max hv
  have HVp : Aside0 (∀ x ∈ V, 0 ≤ x) := ⟨fun x hx => (p2 x hx).1⟩
  have HD : Aside0 (Word (Lf.word true wd) ∧ (Lf.word true wd).length ≤ 60 ∧ ∀ r ∈ Lf.word true wd, r = 97 ∨ r = 98 ∨ r = 99) := ⟨word_fit true wd p1, word_len _ _, word_letters wd⟩
  clear hw hwc hv hvc p1 p2
  go_enter Try.func10, Try.ntmps10
  go_wp2_with (first
    | ((with_reducible refine gate_callee (f := 16) rfl ?_); (refine goesL_ (some 13) rfl rfl Try.func16 (by kernel_rfl) rfl #[] rfl (by (try simp only [List.map_toArray, List.map_cons, List.map_nil]); first | done | rfl) ?_; refine (awake_calls _).mono ?_; rintro e w1 ⟨rfl, hb⟩; refine ⟨_, rfl, ?_⟩; replace HW := Aside0.mk (Kd.C_below HW.out hb); replace HV := Aside0.mk (Kd.C_below HV.out hb); have HB := Aside0.mk hb; clear hb))
    | ((with_reducible refine gate_callee (f := 18) rfl ?_); (refine goesL_ (some 16) rfl rfl Try.func18 (by kernel_rfl) rfl #[.slice A wd.length c, .bool true] rfl (by (try simp only [List.map_toArray, List.map_cons, List.map_nil]); first | done | rfl) ?_; refine (Lf.word_calls A c wd true _ HW.out HWc.out).mono ?_; rintro e w3 ⟨v_, rfl, hr_, hb⟩; refine ⟨_, rfl, ?_⟩; replace HV := Aside0.mk (Kd.C_below HV.out hb); replace HB := Aside0.mk (below_step HB.out hb); obtain ⟨A4, c4, hv_, hl_, hc_⟩ := Kd.R_reads hr_; subst hv_; replace HW := Aside0.mk hc_; replace HWc := Aside0.mk hl_; clear hr_ hl_ hc_; generalize Lf.word true wd = D at HW HWc HD hz hne ⊢; clear hb); have hd3 := HD.out.2.1)
    | ((with_reducible refine gate_builtin (b := .append) (xs := #[.tmp 35, .tmp 36]) rfl ?_); at_builtin; (refine Kd.R_append_rows (Kd.int .i32) (w0 := w3) w3.heap.size rfl (.tmp 35) (.tmp 36) 23 21 (.int .i32 0) 4 rfl Try.underlying23 info21 rfl (by decide) (by decide) (.slice none 0 0) ([] : List Int) D A4 D.length c4 (fun _ => True) (fun _ => False) rfl rfl (Kd.R_nil _ _ _ _ _) (Kd.C_below HW.out (below_alloc (Below.refl _ _) _)) (fun _ _ h => h) (fun _ h => h.elim) (fun _ _ => trivial) (below_alloc (Below.refl _ _) _) (below_size (below_alloc (Below.refl _ _) _)) (by  simp; try omega) ?_; intro vLb wLb ho_ hb_ hg_ hat_; clear hat_; obtain ⟨Lb, hLb⟩ : ∃ L, ([] : List Int) ++ D = L := ⟨_, rfl⟩; rw [hLb] at ho_; have hlLb : Aside0 (Lb.length = 0 + D.length) := ⟨by rw [← hLb, List.length_append]; rfl⟩; have HPB := Aside0.mk (blk_grown (blk_new _ _) hg_ (by simp [Value.ownBlock])); obtain ⟨ALb, cLb, hv_⟩ := Kd.R_slice ho_; subst hv_; have HL := Aside0.mk ho_; have HBp := Aside0.mk hb_; have HLb := Aside0.mk hLb; clear ho_ hb_ hg_ hLb))
    | ((refine gate_ (.store 23 (.tmp 38) (.tmp 37)) rfl ?_; refine store1 (u := .slice ALb Lb.length cLb) rfl rfl 23 (.tmp 38) (.tmp 37) rfl rfl rfl rfl size23 rfl HPB.out (by simp) ?_; intro wsLb hws_; replace HL := Aside0.mk (Kd.R_set HL.out HPB.out (by decide) 0 (.slice ALb Lb.length cLb)); replace HPB := Aside0.mk (blk_set HPB.out 0 (.slice ALb Lb.length cLb)); replace HBp := Aside0.mk (below_set (j := 0) (v := .slice ALb Lb.length cLb) HBp.out (Nat.le_refl _)); rw [← hws_] at HL HPB HBp; have qLb : wsLb.cell? ⟨w3.heap.size, 0, none⟩ = some (.slice ALb Lb.length cLb) := (by rw [blk_cell HPB.out 0]; rfl); clear hws_); have hL62 : Lb.length ≤ 62 := (by have := hlLb.out; omega)))
  have hle : Aside0 (Lb.length ≤ 62 ∧ Lb.length = D.length + 0 + 0) := ⟨by have := hlLb.out; omega⟩
  have HPe : Aside0 (Lb = dotted false false D) := ⟨by rw [← HLb.out]; simp [dotted]⟩
  clear qLb
  go_loopg [9, 51] (Lb.length + 1) (fun g v9 v51 w' => ∃ (k : Nat) (v1 : Value), v51 = .int .i64 k ∧ Aside0 (g + k = Lb.length + 1) ∧ Aside0 (w'.heap[w3.heap.size]? = some (.cells #[.slice ALb Lb.length cLb, v1] 39 (0, 0))) ∧ Aside0 (Kd.R (Kd.int .i32) 21 w' w3.heap.size (fun _ => True) (.slice ALb Lb.length cLb) Lb) ∧ Aside0 (Kd.R (Kd.int .u8) 5 w' w3.heap.size (fun _ => True) v1 (around V k)) ∧ Aside0 (Below w3.heap.size w3 w'))
  case atStart => exact ⟨0, .slice none 0 0, rfl, ⟨rfl⟩, HPB, HL, ⟨Kd.R_nil _ _ _ _ _⟩, HBp⟩
  case round =>
    clear HPB HL HBp
    obtain ⟨k, v1, rfl, HG, HPB, HL, HR, HBp⟩ := hrel
    by_cases hk : k < Lb.length + 1
    · have hk62 : k ≤ 62 := by have := hle.out; omega
      have hvpos : 0 < V.length := by
        have : ¬ (V.length : Int) = 0 := by simpa using hzv
        omega
      have hr0 : k % V.length < V.length := Nat.mod_lt _ hvpos
      obtain ⟨ad, e1, hx⟩ := Kd.at_int HV.out ((k : Int) % (V.length : Int)) (Int.emod_nonneg _ (by omega)) (Int.emod_lt_of_pos _ (by omega))
      subst e1
      have hmod : (k : Int) % (V.length : Int) = ((k % V.length : Nat) : Int) := rfl
      have htm : (k : Int).tmod (V.length : Int) = ((k % V.length : Nat) : Int) := by rw [Int.tmod_eq_emod_of_nonneg (by omega)]; rfl
      rw [hmod, Int.toNat_natCast] at hx
      have hx3 := (HBp.out.cell (World.block_lt_of_cell? w3 _ hx)).trans hx
      have hgs := around_succ V k
      have hxr : rd V ((k % V.length : Nat) : Int) = V.getD (k % V.length) 0 := rfl
      rw [hxr] at hx3
      generalize V.getD (k % V.length) 0 = x at hx3 hgs
      have HGS := Aside0.mk hgs
      generalize k % V.length = m at hr0 htm hx3 hmod
      have q1 : wr.cell? ⟨w3.heap.size, 1, none⟩ = some v1 := by rw [blk_cell HPB.out 1]; rfl
      obtain ⟨Av, cv, hv1⟩ := Kd.R_slice HR.out
      subst hv1
      have HRd := Aside0.mk (Kd.R_drew HR.out)
      have HLd := Aside0.mk (Kd.R_drew HL.out)
      have HBd := Aside0.mk (below_drew HBp.out)
      have HPBd : Aside0 (wr.drew.heap[w3.heap.size]? = some (.cells #[.slice ALb Lb.length cLb, .slice Av (around V k).length cv] 39 (0, 0))) := ⟨HPB.out⟩
      clear hx hxr hgs
      go_wp2_with fail
      have hvn0 : ((V.length : Int) = 0) = False := eq_false (by omega)
      have hvn1 : ¬ V = [] := by rintro rfl; exact absurd hvpos (Nat.lt_irrefl _)
      have qa : (wr.alloc (.cells #[.int .u8 x] 5)).cell? ⟨w3.heap.size, 1, none⟩ = some (.slice Av (around V k).length cv) := by rw [blk_cell (blk_alloc HPB.out _) 1]; rfl
      have HRAL := Aside0.mk (around_len V k)
      go_region_law (refine Kd.R_append_step (Kd.int .u8) (w0 := w3) w3.heap.size rfl (.tmp 55) (.tmp 63) 27 5 (.int .u8 0) 1 rfl Try.underlying27 info5 rfl (by decide) (by decide) (.slice Av (around V k).length cv) (around V k) x [.int .u8 x] (fun _ => True) (fun _ => False) rfl rfl rfl (fun _ hk => hk.elim) (fun _ _ => trivial) HRd.out HBd.out (below_size HBd.out) (by have := HRAL.out; omega) ?_; intro v1 w64 ho_ hb_ hg_ hat_; clear hat_; rw [← HGS.out] at ho_; have HPB1 := Aside0.mk (blk_grown HPBd.out hg_ (Kd.R_ne HRd.out HPBd.out (by decide))); have HL1 := Aside0.mk (Kd.R_grown2 HLd.out rfl hg_ (fun k_ hk_ => by obtain ⟨cs_, hcs_⟩ := own_typed (Kd.own_of_R HRd.out) k_ hk_; exact Kd.R_ne HLd.out hcs_ (by decide))); obtain ⟨A5, c5, hv_⟩ := Kd.R_slice ho_; subst hv_; have HR1 := Aside0.mk ho_; have HB1 := Aside0.mk hb_; have q64 : w64.cell? ⟨w3.heap.size, 1, none⟩ = some (.slice Av (around V k).length cv) := (by rw [blk_cell HPB1.out 1]; rfl); have f64 : w64.frozen? ⟨w3.heap.size, 1, none⟩ = false := blk_frozen HPB1.out 1; clear ho_ hb_ hg_)
      all_goals go_wp2_with fail
      all_goals
        go_roundg (Lb.length + 1 - (k + 1))
        case measure => have := HG.out; omega
        case rel => exact ⟨k + 1, _, by go_num, ⟨by omega⟩, ⟨blk_set HPB1.out 1 _⟩, ⟨Kd.R_set HL1.out HPB1.out (by decide) 1 _⟩, ⟨Kd.R_set HR1.out HPB1.out (by decide) 1 _⟩, ⟨below_set (j := 1) (v := .slice A5 (around V (k + 1)).length c5) HB1.out (Nat.le_refl _)⟩⟩
    · have hke : k = Lb.length + 1 := by have := HG.out; omega
      subst hke
      have hvsl := around_len V (Lb.length + 1)
      have hvsm := around_mem V (Lb.length + 1) HVp.out
      generalize around V (Lb.length + 1) = VS at HR hvsl hvsm
      have HVL := Aside0.mk hvsl
      have HVM := Aside0.mk hvsm
      obtain ⟨Av, cv, hv1⟩ := Kd.R_slice HR.out
      subst hv1
      have q0 : wr.cell? ⟨w3.heap.size, 0, none⟩ = some (.slice ALb Lb.length cLb) := by rw [blk_cell HPB.out 0]; rfl
      have q1 : wr.cell? ⟨w3.heap.size, 1, none⟩ = some (.slice Av VS.length cv) := by rw [blk_cell HPB.out 1]; rfl
      replace HW := Aside0.mk (Kd.C_below HW.out HBp.out)
      have HRc := Aside0.mk (Kd.R_reads' HR.out).2.2
      replace HB := Aside0.mk (below_step HB.out HBp.out)
      have HDW := Aside0.mk HD.out.1
      have HP1 : Aside0 (Fit [⟨Lb, VS⟩]) := ⟨fit_one (by have := hle.out; omega) (by have := hle.out; omega) (by rw [HPe.out]; exact dots_in HD.out.1 _ _) hvsm⟩
      have HP2 : Aside0 (Fit [⟨[122], [9, 9]⟩]) := ⟨fit_one (by decide) (by decide) (by intro r hr; rw [List.mem_singleton.1 hr]; exact ⟨by decide, by decide⟩) (by decide)⟩
      clear HG hvsl hvsm hk
      go_wp2_with (first
        | ((with_reducible refine gate_dst (N := 68) rfl ?_); (refine Kd.R_lit k39 (w0 := w3) w3.heap.size 39 ?hg (N := 68) ?hd (xs := ([⟨Lb, VS⟩] : List S39)) (inner := [.slice ALb Lb.length cLb, .slice Av VS.length cv]) (ok := fun _ => True) (okp := fun _ => True) ?hr ?hp (fun _ hk => hk) trivial HBp.out (below_size HBp.out) (by simp) ?_; (case hd => rfl); (case hg => rfl); (case hr => first | (go_simp; done) | (go_simp; rfl)); (case hp => exact (Reps.c2 (k39_mkM _ _ _ ⟨Lb, VS⟩ HL.out HR.out) (Reps.none _ _))); intro v_ w68 ho_ hb_ hg_ hat_; clear hat_; obtain ⟨A8, c8, hv_, hl_, hc_⟩ := Kd.R_reads ho_; subst hv_; have HC8 := Aside0.mk hc_; have HC8c := Aside0.mk hl_; have hb := (Below.refl wr.heap.size wr).grown hg_ (Nat.le_refl _) (fun k h => by simp at h); replace HW := Aside0.mk (Kd.C_below HW.out hb); replace HRc := Aside0.mk (Kd.C_below HRc.out hb); replace HPB := Aside0.mk (blk_below HPB.out hb); replace HB := Aside0.mk (below_step HB.out hb); clear ho_ hb_ hg_ hc_ hl_ hb q0 q1))
        | ((with_reducible refine gate_callee (f := 19) rfl ?_); (refine goesL_ (some 69) rfl rfl Try.func19 (by kernel_rfl) rfl #[.slice A8 ([⟨Lb, VS⟩] : List S39).length c8] rfl (by (try simp only [List.map_toArray, List.map_cons, List.map_nil]); first | done | rfl) ?_; refine (make_fit ([⟨Lb, VS⟩] : List S39) A8 c8 _ HC8.out HC8c.out HP1.out).mono ?_; rintro e w69 ⟨bt1, rfl, hT_, hb⟩; refine ⟨_, rfl, ?_⟩; replace HW := Aside0.mk (Kd.C_below HW.out hb); replace HRc := Aside0.mk (Kd.C_below HRc.out hb); replace HPB := Aside0.mk (blk_below HPB.out hb); replace HB := Aside0.mk (below_step HB.out hb); have HT1 := Aside0.mk hT_; clear hT_; clear hb; clear HC8))
        | ((with_reducible refine gate_callee (f := 20) rfl ?_); (refine goesL_ (some 71) rfl rfl Try.func20 (by kernel_rfl) rfl #[.pointer (some ⟨bt1, 0, none⟩), .slice A4 D.length c4] rfl (by (try simp only [List.map_toArray, List.map_cons, List.map_nil]); first | done | rfl) ?_; refine (values_fit ([⟨Lb, VS⟩] : List S39) _ bt1 A4 c4 D _ HT1.out HW.out HWc.out HP1.out HDW.out).mono ?_; rintro e w71 ⟨v_, rfl, hr_, hb⟩; refine ⟨_, rfl, ?_⟩; replace HW := Aside0.mk (Kd.C_below HW.out hb); replace HRc := Aside0.mk (Kd.C_below HRc.out hb); replace HPB := Aside0.mk (blk_below HPB.out hb); replace HB := Aside0.mk (below_step HB.out hb); obtain ⟨X, hx_⟩ : ∃ X, values (make (List.map pq ([⟨Lb, VS⟩] : List S39))) D = X := ⟨_, rfl⟩; rw [hx_] at hr_; have hXl : X.length = D.length + 1 := (by rw [← hx_]; exact values_length _ _); have HXe := Aside0.mk hx_; obtain ⟨A71, c71, hv_, _, hc_⟩ := Kd.R_reads hr_; subst hv_; have HX := Aside0.mk hc_; clear hr_ hc_ hx_; clear hb; clear HT1))
        | ((with_reducible refine gate_dst (N := 72) rfl ?_); (refine Kd.R_lit (Kd.int .i32) (w0 := w71) w71.heap.size 21 ?hg (N := 72) ?hd (xs := ([122] : List Int)) (inner := [.int .i32 122]) (ok := fun _ => True) (okp := fun _ => True) ?hr ?hp (fun _ hk => hk) trivial (Below.refl _ _) (below_size (Below.refl _ _)) (by simp) ?_; (case hd => rfl); (case hg => rfl); (case hr => first | (go_simp; done) | (go_simp; rfl)); (case hp => exact (Reps.one (show Kd.M (Kd.int .i32) _ _ _ 122 [.int .i32 122] from rfl) (Reps.none _ _))); intro v_ w72 ho_ hb_ hg_ hat_; clear hat_; obtain ⟨A72, c72, hv_⟩ := Kd.R_slice ho_; subst hv_; have H72 := Aside0.mk ho_; have HB72 := Aside0.mk hb_; clear ho_ hb_ hg_))
        | ((with_reducible refine gate_dst (N := 73) rfl ?_); (refine Kd.R_lit (Kd.int .u8) (w0 := w71) w71.heap.size 5 ?hg (N := 73) ?hd (xs := ([9, 9] : List Int)) (inner := [.int .u8 9, .int .u8 9]) (ok := fun _ => True) (okp := fun _ => True) ?hr ?hp (fun _ hk => hk) trivial HB72.out (below_size HB72.out) (by simp) ?_; (case hd => rfl); (case hg => rfl); (case hr => first | (go_simp; done) | (go_simp; rfl)); (case hp => exact (Reps.one (show Kd.M (Kd.int .u8) _ _ _ 9 [.int .u8 9] from rfl) ((Reps.one (show Kd.M (Kd.int .u8) _ _ _ 9 [.int .u8 9] from rfl) (Reps.none _ _))))); intro v_ w73 ho_ hb_ hg_ hat_; clear hat_; obtain ⟨A73, c73, hv_⟩ := Kd.R_slice ho_; subst hv_; have H73 := Aside0.mk ho_; have HB73 := Aside0.mk hb_; replace H72 := Aside0.mk (Kd.R_grown H72.out hg_ (fun _ _ => by simp)); clear ho_ hb_ hg_ HB72))
        | ((with_reducible refine gate_dst (N := 75) rfl ?_); (refine Kd.R_lit k39 (w0 := w71) w71.heap.size 39 ?hg (N := 75) ?hd (xs := ([⟨[122], [9, 9]⟩] : List S39)) (inner := [.slice A72 1 c72, .slice A73 2 c73]) (ok := fun _ => True) (okp := fun _ => True) ?hr ?hp (fun _ hk => hk) trivial HB73.out (below_size HB73.out) (by simp) ?_; (case hd => rfl); (case hg => rfl); (case hr => first | (go_simp; done) | (go_simp; rfl)); (case hp => exact (Reps.c2 (k39_mkM _ _ _ ⟨[122], [9, 9]⟩ H72.out H73.out) (Reps.none _ _))); intro v_ w75 ho_ hb_ hg_ hat_; clear hat_; obtain ⟨A75, c75, hv_, hl_, hc_⟩ := Kd.R_reads ho_; subst hv_; have HC9 := Aside0.mk hc_; have HC9c := Aside0.mk hl_; have hb := hb_; replace HW := Aside0.mk (Kd.C_below HW.out hb); replace HRc := Aside0.mk (Kd.C_below HRc.out hb); replace HPB := Aside0.mk (blk_below HPB.out hb); replace HB := Aside0.mk (below_step HB.out hb); replace HX := Aside0.mk (Kd.C_below HX.out hb); clear ho_ hb_ hg_ hc_ hl_ hb H72 H73 HB73))
        | ((with_reducible refine gate_callee (f := 19) rfl ?_); (refine goesL_ (some 76) rfl rfl Try.func19 (by kernel_rfl) rfl #[.slice A75 ([⟨[122], [9, 9]⟩] : List S39).length c75] rfl (by (try simp only [List.map_toArray, List.map_cons, List.map_nil]); first | done | rfl) ?_; refine (make_fit ([⟨[122], [9, 9]⟩] : List S39) A75 c75 _ HC9.out HC9c.out HP2.out).mono ?_; rintro e w76 ⟨bt2, rfl, hT_, hb⟩; refine ⟨_, rfl, ?_⟩; replace HW := Aside0.mk (Kd.C_below HW.out hb); replace HRc := Aside0.mk (Kd.C_below HRc.out hb); replace HPB := Aside0.mk (blk_below HPB.out hb); replace HB := Aside0.mk (below_step HB.out hb); replace HX := Aside0.mk (Kd.C_below HX.out hb); have HT2 := Aside0.mk hT_; clear hT_; clear hb; clear HC9))
        | ((with_reducible refine gate_callee (f := 20) rfl ?_); (refine goesL_ (some 78) rfl rfl Try.func20 (by kernel_rfl) rfl #[.pointer (some ⟨bt2, 0, none⟩), .slice A4 D.length c4] rfl (by (try simp only [List.map_toArray, List.map_cons, List.map_nil]); first | done | rfl) ?_; refine (values_fit ([⟨[122], [9, 9]⟩] : List S39) _ bt2 A4 c4 D _ HT2.out HW.out HWc.out HP2.out HDW.out).mono ?_; rintro e w78 ⟨v_, rfl, hr_, hb⟩; refine ⟨_, rfl, ?_⟩; replace HW := Aside0.mk (Kd.C_below HW.out hb); replace HRc := Aside0.mk (Kd.C_below HRc.out hb); replace HPB := Aside0.mk (blk_below HPB.out hb); replace HB := Aside0.mk (below_step HB.out hb); replace HX := Aside0.mk (Kd.C_below HX.out hb); obtain ⟨Y, hx_⟩ : ∃ X, values (make (List.map pq ([⟨[122], [9, 9]⟩] : List S39))) D = X := ⟨_, rfl⟩; rw [hx_] at hr_; have hYl : Y.length = D.length + 1 := (by rw [← hx_]; exact values_length _ _); have HYe := Aside0.mk hx_; obtain ⟨A78, c78, hv_, _, hc_⟩ := Kd.R_reads hr_; subst hv_; have HY := Aside0.mk hc_; clear hr_ hc_ hx_; clear hb; clear HT2)))
      have HXb : Aside0 (∀ i : Nat, i < D.length + 1 → rd X (i : Int) = rd VS ((i : Int))) := ⟨fun i hi => by
        have hb : Best [(Lb, VS)] (46 :: D ++ [46]) X := HXe.out ▸ values_best _ HP1.out.nn D
        have := alone_best (D := D) false false HPe.out hne (fun r hr => by rcases HD.out.2.2 r hr with h | h | h <;> rw [h] <;> decide) (NN.of_mem HVM.out) hb i (by omega)
        exact this⟩
      have HYb : Aside0 (∀ i : Nat, i < D.length + 1 → rd Y (i : Int) = 0) := ⟨fun i hi => by
        have hb : Best [([122], [9, 9])] (46 :: D ++ [46]) Y := HYe.out ▸ values_best _ HP2.out.nn D
        exact none_best (D := D) (fun r hr => by rcases HD.out.2.2 r hr with h | h | h <;> rw [h] <;> decide) hb i (by omega)⟩
      have q1 : w78.cell? ⟨w3.heap.size, 1, none⟩ = some (.slice Av VS.length cv) := by rw [blk_cell HPB.out 1]; rfl
      go_loopg [12, 95] (D.length + 1) (fun g v12 v95 w' => ∃ i : Nat, v95 = .int .i64 i ∧ Aside0 (g + i = D.length + 1) ∧ ∃ n, w' = w78.drewN n)
      case atStart => exact ⟨0, rfl, ⟨rfl⟩, 0, rfl⟩
      case round =>
        obtain ⟨i, rfl, HG, nd, rfl⟩ := hrel
        by_cases hi : i < D.length + 1
        · have p1 : (0 : Int) ≤ (i : Int) := by omega
          have hvl : VS.length = D.length + 0 + 0 + 1 := by have := HVL.out; have := hle.out; omega
          obtain ⟨ax, ex, hx⟩ := Kd.at_int HX.out (i : Int) p1 (by omega)
          obtain ⟨ay, ey, hy⟩ := Kd.at_int HY.out (i : Int) p1 (by omega)
          obtain ⟨av, ev, hv⟩ := Kd.at_int HRc.out ((i : Int)) (by omega) (by omega)
          subst ex ey ev
          rw [HXb.out i hi] at hx
          rw [HYb.out i hi] at hy
          generalize rd VS ((i : Int)) = x at hx hv
          rw [Int.toNat_natCast] at hv
          rw [Int.toNat_natCast] at hx hy
          have p2 : (0 : Int) ≤ ((i : Int)) := by omega
          have q2 : decide (((i : Int)) < (VS.length : Int)) = true := decide_eq_true (by omega)
          have q3 : ((i : Int)) < (VS.length : Int) := by omega
          have q0 : decide ((0 : Int) ≤ (i : Int)) = true := decide_eq_true p1
          have HVl := Aside0.mk hvl
          clear hvl
          go_wp2_with fail
          go_region
          all_goals go_wp2_with fail
          all_goals
            go_roundg (D.length + 1 - (i + 1))
            case measure => have := HG.out; omega
            case rel => exact ⟨i + 1, by go_num, ⟨by omega⟩, _, rfl⟩
        · have hie : i = D.length + 1 := by have := HG.out; omega
          subst hie
          clear HG hi
          go_wp2_with fail
          go_ret
          exact ⟨rfl, pw_below_drewN HB.out _⟩



set_option maxHeartbeats 4000000 in
set_option maxRecDepth 100000 in
theorem trieAlone_none (wd : List Int) (A : Option Addr) (c : Nat) (V : List Int) (A2 : Option Addr) (c2 : Nat) (dots : Int) (w : World)
    (hw : Kd.C (Kd.int .i32) w A wd.length wd) (hwc : wd.length ≤ c) (hz : (((Lf.word true wd).length : Int) == 0) = true) :
    Calls Try.prog 10 #[.slice A wd.length c, .slice A2 V.length c2, .int .u8 dots] w fun e w' => e = .returned (.bool true) ∧ Below w.heap.size w w' := by
  have HW := Aside0.mk hw
  have HWc := Aside0.mk hwc
  have hz2 : Lf.word true wd = [] := List.eq_nil_of_length_eq_zero (by have := eq_of_beq hz; omega)
  clear hw hwc hz
  go_enter Try.func10, Try.ntmps10
  go_wp2_with (first
    | ((with_reducible refine gate_callee (f := 16) rfl ?_); (refine goesL_ (some 13) rfl rfl Try.func16 (by kernel_rfl) rfl #[] rfl (by (try simp only [List.map_toArray, List.map_cons, List.map_nil]); first | done | rfl) ?_; refine (awake_calls _).mono ?_; rintro e w1 ⟨rfl, hb⟩; refine ⟨_, rfl, ?_⟩; replace HW := Aside0.mk (Kd.C_below HW.out hb); have HB := Aside0.mk hb; clear hb))
    | ((with_reducible refine gate_callee (f := 18) rfl ?_); (refine goesL_ (some 16) rfl rfl Try.func18 (by kernel_rfl) rfl #[.slice A wd.length c, .bool true] rfl (by (try simp only [List.map_toArray, List.map_cons, List.map_nil]); first | done | rfl) ?_; refine (Lf.word_calls A c wd true _ HW.out HWc.out).mono ?_; rintro e w3 ⟨v_, rfl, hr_, hb⟩; refine ⟨_, rfl, ?_⟩; replace HB := Aside0.mk (below_step HB.out hb); obtain ⟨A4, c4, hv_, hl_, hc_⟩ := Kd.R_reads hr_; subst hv_; replace HW := Aside0.mk hc_; replace HWc := Aside0.mk hl_; clear hr_ hl_ hc_; clear hb)))
  go_ret
  exact ⟨rfl, HB.out⟩
set_option maxHeartbeats 4000000 in
set_option maxRecDepth 100000 in
theorem trieAlone_novals (wd : List Int) (A : Option Addr) (c : Nat) (V : List Int) (A2 : Option Addr) (c2 : Nat) (dots : Int) (w : World)
    (hw : Kd.C (Kd.int .i32) w A wd.length wd) (hwc : wd.length ≤ c) (hz : (((Lf.word true wd).length : Int) == 0) = false) (hne : ¬ Lf.word true wd = []) (hzv : V = []) :
    Calls Try.prog 10 #[.slice A wd.length c, .slice A2 V.length c2, .int .u8 dots] w fun e w' => e = .returned (.bool true) ∧ Below w.heap.size w w' := by
  subst hzv
  have HW := Aside0.mk hw
  have HWc := Aside0.mk hwc
  clear hw hwc
  go_enter Try.func10, Try.ntmps10
  go_wp2_with (first
    | ((with_reducible refine gate_callee (f := 16) rfl ?_); (refine goesL_ (some 13) rfl rfl Try.func16 (by kernel_rfl) rfl #[] rfl (by (try simp only [List.map_toArray, List.map_cons, List.map_nil]); first | done | rfl) ?_; refine (awake_calls _).mono ?_; rintro e w1 ⟨rfl, hb⟩; refine ⟨_, rfl, ?_⟩; replace HW := Aside0.mk (Kd.C_below HW.out hb); have HB := Aside0.mk hb; clear hb))
    | ((with_reducible refine gate_callee (f := 18) rfl ?_); (refine goesL_ (some 16) rfl rfl Try.func18 (by kernel_rfl) rfl #[.slice A wd.length c, .bool true] rfl (by (try simp only [List.map_toArray, List.map_cons, List.map_nil]); first | done | rfl) ?_; refine (Lf.word_calls A c wd true _ HW.out HWc.out).mono ?_; rintro e w3 ⟨v_, rfl, hr_, hb⟩; refine ⟨_, rfl, ?_⟩; replace HB := Aside0.mk (below_step HB.out hb); obtain ⟨A4, c4, hv_, hl_, hc_⟩ := Kd.R_reads hr_; subst hv_; replace HW := Aside0.mk hc_; replace HWc := Aside0.mk hl_; clear hr_ hl_ hc_; clear hb)))
  go_ret
  exact ⟨rfl, HB.out⟩
theorem trieAlone_row (wd : List Int) (A : Option Addr) (c : Nat) (V : List Int) (A2 : Option Addr) (c2 : Nat) (dots : Int) (w : World)
    (hw : Kd.C (Kd.int .i32) w A wd.length wd) (hwc : wd.length ≤ c) (p1 : ∀ r ∈ wd, In32 r) (hv : Kd.C (Kd.int .u8) w A2 V.length V) (hvc : V.length ≤ c2) (p2 : ∀ r ∈ V, 0 ≤ r ∧ r ≤ 255) (_hn : 0 ≤ dots ∧ dots ≤ 255) :
    Calls Try.prog 10 #[.slice A wd.length c, .slice A2 V.length c2, .int .u8 dots] w fun e w' => e = .returned (.bool true) ∧ Below w.heap.size w w' := by
  cases hz : (((Lf.word true wd).length : Int) == 0) with
  | true => exact trieAlone_none wd A c V A2 c2 dots w hw hwc hz
  | false =>
    have hne : ¬ Lf.word true wd = [] := by
      intro h
      rw [h] at hz
      exact absurd hz (by decide)
    cases hzv : ((V.length : Int) == 0) with
    | true =>
      have h0 := eq_of_beq hzv
      exact trieAlone_novals wd A c V A2 c2 dots w hw hwc hz hne (List.eq_nil_of_length_eq_zero (by omega))
    | false =>
      cases hda : (bits BinOp.and IntKind.u8 dots 1 == 1) with
      | true =>
        cases hdb : (bits BinOp.and IntKind.u8 dots 2 == 2) with
        | true => exact trieAlone_LT wd A c V A2 c2 dots w hw hwc p1 hv hvc p2 hda hdb hz hne hzv
        | false => exact trieAlone_LN wd A c V A2 c2 dots w hw hwc p1 hv hvc p2 hda hdb hz hne hzv
      | false =>
        cases hdb : (bits BinOp.and IntKind.u8 dots 2 == 2) with
        | true => exact trieAlone_NT wd A c V A2 c2 dots w hw hwc p1 hv hvc p2 hda hdb hz hne hzv
        | false => exact trieAlone_NN wd A c V A2 c2 dots w hw hwc p1 hv hvc p2 hda hdb hz hne hzv
end Go.Proofs.Ytoefjhdcipgacaa.Tr
