/-
  stanzalaw08.TrieSizes answers true, whatever patterns lie in memory.
-/
import Derived.Test.YtoefjhdcipgacaaAwake08
import Derived.Test.YtoefjhdcipgacaaBegPlain
namespace Go.Proofs.Ytoefjhdcipgacaa.Tr
open Go.RowKit Go.Proofs.YtoefjhdcipgacaaW.PrintWords Go.Proofs.YtoefjhdcipgacaaW.PrintLast Go.Proofs.YtoefjhdcipgacaaW.PrintMore
open Go.Proofs.Ytoefjhdcipgacaa.PA
attribute [local go_sem] max2_int min2_int max_two min_two

section
variable {P : Program} {ops : Array Oper} {rest : List Oper} {o : Oper} {a : Act} {Q : Exit → Act → World → Prop} {W : World}
/-- 'make' with a length of any kind of number. -/
theorem R_makeK {α : Type} (d : Kd α) {w0 : World} (base e : Nat) (hgd : o.guard = none) {N : Tmp} (hd : o.dst = some N) (kd : IntKind) (t : TypeId) (x y : Operand) (ho : o.op = .makeSlice t x y) (n : Int) (hx : a.eval x = .int kd n) (hy : a.eval y = .int kd n)
    (ht : P.underlying t = some (.slice e)) (z : Value) (bytes : Nat) (hinfo : (P.info? e).map (fun i => (i.zero, i.size, i.bytes)) = some (some z, d.sz, bytes)) (hz : z.cells.size = d.sz) (hs0 : 0 < d.sz) (hb0 : 0 < bytes)
    (z0 : α) {ok okp : Nat → Prop} (hzero : d.M W base okp z0 z.cells.toList) (hok : ∀ k, okp k → ok k) (hfresh : ok W.heap.size) (h0 : 0 ≤ n) (hl : n.toNat * bytes ≤ 281474976710656) (HB : Below base w0 W) (hbase : base ≤ W.heap.size)
    (h : ∀ v1 w1, d.R e w1 base ok v1 (List.replicate n.toNat z0) → Below base w0 w1 → W.grownBy w1 none → (∃ b, v1.ownBlock = some b ∧ W.heap.size ≤ b) → wpList P ops Q rest (a.put o.dst v1) w1) : wpList P ops Q (o :: rest) a W := by
  obtain ⟨m, rfl⟩ := Int.eq_ofNat_of_zero_le h0
  simp only [Int.toNat_natCast] at hl h
  obtain ⟨i0, hi, hzz⟩ := Option.map_eq_some_iff.1 hinfo
  simp only [Prod.mk.injEq] at hzz
  obtain ⟨hz0, hz1, hz2⟩ := hzz
  have hm : m ≤ 281474976710656 := Nat.le_trans (Nat.le_mul_of_pos_right _ hb0) hl
  have hr := run_make (P := P) W t e i0 z ht hi hz0 kd kd (m : Int) (m : Int) (by omega) (by omega)
    (by
      have h3 : ((i0.bytes * m : Nat) : Int) ≤ 281474976710656 := by rw [hz2, Nat.mul_comm]; omega
      rwa [Int.natCast_mul] at h3) (by omega)
  simp only [Int.toNat_natCast] at hr
  rw [hz1] at hr
  refine Kd.R_lit d base e hgd hd (xs := List.replicate m z0) (inner := (madeCells z.cells (m * d.sz)).toList) (okp := okp) (ok := ok) ?_ (Kd.reps_made hz hs0 hzero m) hok hfresh HB hbase (by simp; omega) h
  simp [execOp, ho, hx, hy, hr]
end
theorem begs_fit (l : List S39) (A : Option Addr) (c : Nat) (w : World) (hr : Kd.C k39 w A l.length l) (hc : l.length ≤ c) (h : Fit l) (h9 : l.length ≤ 900) :
    Calls Try.prog 23 #[.slice A l.length c] w fun e w' => e = .returned (.int .i64 ((make (l.map pq)).n : Int)) ∧ Below w.heap.size w w' := by
  obtain ⟨k, hk⟩ := beg_fit l h h9
  exact stanzaref07_Beginnings.calls k (fun k => k < w.heap.size) A c l _ w ⟨A, c, rfl, hc, Kd.C_F k39_heap hr⟩ hk
set_option maxHeartbeats 4000000 in
set_option maxRecDepth 100000 in
theorem trieSizes_row (l : List S39) (A : Option Addr) (c : Nat) (fit : Bool) (n : Int) (w : World) (hl : Kd.C k39 w A l.length l) (hlc : l.length ≤ c) (hp : Pats l) (hn : 0 ≤ n ∧ n ≤ 255) :
    Calls Try.prog 4 #[.slice A l.length c, .bool fit, .int .u8 n] w fun e w' => e = .returned (.bool true) ∧ Below w.heap.size w w' := by
  obtain ⟨n, rfl⟩ : ∃ m : Nat, (m : Int) = n := ⟨n.toNat, by omega⟩
  have hn2 : n ≤ 255 := by omega
  have HL := Aside0.mk hl
  have HLc := Aside0.mk hlc
  have HF := Aside0.mk (small_fit fit l hp)
  have H9 : Aside0 ((Sm.small fit l).length ≤ 900) := ⟨Nat.le_trans (Sm.smallTo_len fit l 40) (by decide)⟩
  clear hl hlc hp hn
  go_enter Try.func4, Try.ntmps4
  go_wp2_with (first
    | ((with_reducible refine gate_callee (f := 16) rfl ?_); (refine goesL_ (some 11) rfl rfl Try.func16 (by kernel_rfl) rfl #[] rfl (by (try simp only [List.map_toArray, List.map_nil]); first | done | rfl) ?_; refine (awake_calls _).mono ?_; rintro e w1 ⟨rfl, hb⟩; refine ⟨_, rfl, ?_⟩; replace HL := Aside0.mk (Kd.C_below HL.out hb); have HB := Aside0.mk hb; clear hb))
    | ((with_reducible refine gate_callee (f := 17) rfl ?_); (refine goesL_ (some 15) rfl rfl Try.func17 (by kernel_rfl) rfl #[.slice A l.length c, .bool fit] rfl (by (try simp only [List.map_toArray, List.map_cons, List.map_nil]); first | done | rfl) ?_; refine (Sm.small_calls fit l A c _ HL.out HLc.out).mono ?_; rintro e w2 ⟨v2, rfl, hr2, hb⟩; refine ⟨_, rfl, ?_⟩; obtain ⟨A3, c3, hv2, hl2, hc2⟩ := Kd.R_reads hr2; subst hv2; replace HL := Aside0.mk hc2; replace HLc := Aside0.mk hl2; replace HB := Aside0.mk (below_step HB.out hb); clear hb hr2 hl2 hc2; generalize Sm.small fit l = L at HL HLc HF H9 ⊢))
    | (at_make; (refine R_makeK (Kd.int .i32) (w0 := w) w.heap.size 21 rfl (N := 18) rfl .u8 23 (.tmp 17) (.tmp 17) rfl (n : Int) rfl rfl Try.underlying23 (.int .i32 0) 4 info21 rfl (by decide) (by decide) (0 : Int) (ok := fun _ => True) (okp := fun _ => False) rfl (fun _ h => h.elim) trivial (by omega) (by omega) HB.out (below_size HB.out) ?_; intro v1 w1' ho1 hb1 hg1 hn1; clear hn1; obtain ⟨A5, c5, hv5, hl5, hc5⟩ := Kd.R_reads ho1; subst hv5; replace HL := Aside0.mk (Kd.C_below HL.out ((Below.refl _ _).grown hg1 (Nat.le_refl _) (fun k h => by simp at h))); replace HB := Aside0.mk hb1; have HZ := Aside0.mk hc5; have HZl := Aside0.mk hl5; clear hg1 ho1 hb1 hc5 hl5; rw [Int.toNat_natCast] at HZ HZl ⊢))
    | ((with_reducible refine gate_callee (f := 20) rfl ?_); (refine goesL_ (some 19) rfl rfl Try.func20 (by kernel_rfl) rfl #[.pointer none, .slice A5 (List.replicate n (0 : Int)).length c5] rfl (by (try simp only [List.map_toArray, List.map_cons, List.map_nil]); first | done | rfl) ?_; refine (values_nil A5 c5 (List.replicate n (0 : Int)) _ (by rw [List.length_replicate]; omega)).mono ?_; rintro e w20 ⟨v20, rfl, hr20, hb⟩; refine ⟨_, rfl, ?_⟩; obtain ⟨A6, c6, hv6, hl6, hc6⟩ := Kd.R_reads hr20; subst hv6; have HV := Aside0.mk hc6; replace HL := Aside0.mk (Kd.C_below HL.out hb); replace HB := Aside0.mk (below_step HB.out hb); clear hb hr20 hl6 hc6 HZ HZl)))
  have hzz : ∀ i : Nat, rd (zeros (List.replicate n (0 : Int))) (i : Int) = 0 := fun i => zeros_getD _ _
  have hzl : (zeros (List.replicate n (0 : Int))).length = n + 1 := by rw [zeros_length, List.length_replicate]
  have HZZ := Aside0.mk hzz
  have HZL := Aside0.mk hzl
  clear hzz
  generalize zeros (List.replicate n (0 : Int)) = Z at HV HZZ HZL hzl ⊢
  go_loopg [10, 22] (n + 1) (fun g v10 v22 w' => ∃ i : Nat, v22 = .int .i64 i ∧ Aside0 (g + i = n + 1) ∧ w' = w20)
  case atStart => exact ⟨0, rfl, ⟨rfl⟩, rfl⟩
  case round =>
    obtain ⟨i, rfl, HG, rfl⟩ := hrel
    by_cases hi : i < n + 1
    · have p1 : (0 : Int) ≤ (i : Int) := by omega
      have q1 : (i : Int) < (Z.length : Int) := by omega
      obtain ⟨ad, e1, hx⟩ := Kd.at_int HV.out (i : Int) p1 q1
      subst e1
      rw [HZZ.out i, Int.toNat_natCast] at hx
      go_wp2_with fail
      go_roundg (n + 1 - (i + 1))
      case measure => have := HG.out; omega
      case rel => exact ⟨i + 1, by go_num, ⟨by omega⟩, rfl⟩
    · have hie : i = n + 1 := by have := HG.out; omega
      subst hie
      clear HG hi
      go_wp2_with (first
        | ((with_reducible refine gate_callee (f := 19) rfl ?_); (refine goesL_ (some 30) rfl rfl Try.func19 (by kernel_rfl) rfl #[.slice A3 L.length c3] rfl (by (try simp only [List.map_toArray, List.map_cons, List.map_nil]); first | done | rfl) ?_; refine (make_fit L A3 c3 _ HL.out HLc.out HF.out).mono ?_; rintro e w9 ⟨bt, rfl, hT, hb⟩; refine ⟨_, rfl, ?_⟩; have HT := Aside0.mk hT; replace HL := Aside0.mk (Kd.C_below HL.out hb); replace HB := Aside0.mk (below_step HB.out hb); clear hT hb))
        | ((with_reducible refine gate_callee (f := 22) rfl ?_); (refine goesL_ (some 31) rfl rfl Try.func22 (by kernel_rfl) rfl #[.pointer (some ⟨bt, 0, none⟩)] rfl (by (try simp only [List.map_toArray, List.map_cons, List.map_nil]); first | done | rfl) ?_; refine (size_calls _ _ bt _ HT.out).mono ?_; rintro e w9' ⟨rfl, rfl⟩; refine ⟨_, rfl, ?_⟩))
        | ((with_reducible refine gate_callee (f := 23) rfl ?_); (refine goesL_ (some 33) rfl rfl Try.func23 (by kernel_rfl) rfl #[.slice A3 L.length c3] rfl (by (try simp only [List.map_toArray, List.map_cons, List.map_nil]); first | done | rfl) ?_; refine (begs_fit L A3 c3 _ HL.out HLc.out HF.out H9.out).mono ?_; rintro e w33 ⟨rfl, hb⟩; refine ⟨_, rfl, ?_⟩; replace HB := Aside0.mk (below_step HB.out hb); clear hb HT HL))
        | ((with_reducible refine gate_callee (f := 22) rfl ?_); (refine gate_guard (by rfl) ?_; dsimp only); (refine goesL_ (some 37) rfl rfl Try.func22 (by kernel_rfl) rfl #[.pointer none] rfl (by (try simp only [List.map_toArray, List.map_cons, List.map_nil]); first | done | rfl) ?_; refine (size_nil _).mono ?_; rintro e w9' ⟨rfl, rfl⟩; refine ⟨_, rfl, ?_⟩)))
      go_ret
      exact ⟨rfl, HB.out⟩
end Go.Proofs.Ytoefjhdcipgacaa.Tr
