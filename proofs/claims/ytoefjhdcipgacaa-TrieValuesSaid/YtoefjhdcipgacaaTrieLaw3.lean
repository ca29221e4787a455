/-
  stanzalaw08.TrieValues answers true, whatever patterns and word lie in memory.
-/
import Derived.Test.YtoefjhdcipgacaaAwake08
import Derived.Deep.RegionWith
namespace Go.Proofs.Ytoefjhdcipgacaa.Tr
open Go.RowKit Go.Proofs.YtoefjhdcipgacaaW.PrintWords Go.Proofs.YtoefjhdcipgacaaW.PrintLast Go.Proofs.YtoefjhdcipgacaaW.PrintMore
open Go.Proofs.Ytoefjhdcipgacaa.PA
attribute [local go_sem] max2_int min2_int max_two min_two

set_option maxHeartbeats 4000000 in
set_option maxRecDepth 100000 in
theorem trieValues_walk (l : List S39) (A : Option Addr) (c : Nat) (wd : List Int) (A2 : Option Addr) (c2 : Nat) (fit : Bool) (w : World) (hl : Kd.C k39 w A l.length l) (hlc : l.length ≤ c)
    (hw : Kd.C (Kd.int .i32) w A2 wd.length wd) (hwc : wd.length ≤ c2) (hp : Pats l) (h32 : ∀ r ∈ wd, In32 r) :
    Calls Try.prog 3 #[.slice A l.length c, .slice A2 wd.length c2, .bool fit] w fun e w' => e = .returned (.bool true) ∧ Below w.heap.size w w' := by
  have HL := Aside0.mk hl
  have HLc := Aside0.mk hlc
  have HW := Aside0.mk hw
  have HWc := Aside0.mk hwc
  have HF := Aside0.mk (small_fit fit l hp)
  have HD := Aside0.mk (word_fit fit wd h32)
  clear hl hlc hw hwc hp h32
  go_enter Try.func3, Try.ntmps3
  go_wp2_with (first
    | ((with_reducible refine gate_callee (f := 16) rfl ?_); (refine goesL_ (some 7) rfl rfl Try.func16 (by kernel_rfl) rfl #[] rfl (by (try simp only [List.map_toArray, List.map_cons, List.map_nil]); first | done | rfl) ?_; refine (awake_calls _).mono ?_; rintro e w1 ⟨rfl, hb⟩; refine ⟨_, rfl, ?_⟩; replace HL := Aside0.mk (Kd.C_below HL.out hb); replace HW := Aside0.mk (Kd.C_below HW.out hb); have HB := Aside0.mk hb; clear hb))
    | ((with_reducible refine gate_callee (f := 17) rfl ?_); (refine goesL_ (some 11) rfl rfl Try.func17 (by kernel_rfl) rfl #[.slice A l.length c, .bool fit] rfl (by (try simp only [List.map_toArray, List.map_cons, List.map_nil]); first | done | rfl) ?_; refine (Sm.small_calls fit l A c _ HL.out HLc.out).mono ?_; rintro e w2 ⟨v2, rfl, hr2, hb⟩; refine ⟨_, rfl, ?_⟩; obtain ⟨A3, c3, hv2, hl2, hc2⟩ := Kd.R_reads hr2; subst hv2; replace HL := Aside0.mk hc2; replace HLc := Aside0.mk hl2; replace HW := Aside0.mk (Kd.C_below HW.out hb); replace HB := Aside0.mk (below_step HB.out hb); clear hb hr2 hl2 hc2))
    | ((with_reducible refine gate_callee (f := 18) rfl ?_); (refine goesL_ (some 14) rfl rfl Try.func18 (by kernel_rfl) rfl #[.slice A2 wd.length c2, .bool fit] rfl (by (try simp only [List.map_toArray, List.map_cons, List.map_nil]); first | done | rfl) ?_; refine (Lf.word_calls A2 c2 wd fit _ HW.out HWc.out).mono ?_; rintro e w3 ⟨v3, rfl, hr3, hb⟩; refine ⟨_, rfl, ?_⟩; obtain ⟨A4, c4, hv3, hl3, hc3⟩ := Kd.R_reads hr3; subst hv3; replace HW := Aside0.mk hc3; replace HWc := Aside0.mk hl3; replace HL := Aside0.mk (Kd.C_below HL.out hb); replace HB := Aside0.mk (below_step HB.out hb); clear hb hr3 hl3 hc3)))
  generalize Sm.small fit l = L at HL HLc HF ⊢
  generalize Lf.word fit wd = D at HW HWc HD ⊢
  replace HL := Aside0.mk (Kd.C_drew HL.out)
  replace HW := Aside0.mk (Kd.C_drew HW.out)
  replace HB := Aside0.mk (below_drew HB.out)
  go_region_with (first
    | (go_at_call 19; refine Calls.mono (make_fit L A3 c3 _ HL.out HLc.out HF.out) ?_; rintro e wa ⟨bt, rfl, hT, hb⟩; have HT := Aside0.mk hT; replace HL := Aside0.mk (Kd.C_below HL.out hb); replace HW := Aside0.mk (Kd.C_below HW.out hb); replace HB := Aside0.mk (below_step HB.out hb); clear hb hT)
    | (go_at_call 20; refine Calls.mono (values_fit L _ bt A4 c4 D _ HT.out HW.out HWc.out HF.out HD.out) ?_; rintro e wv ⟨vv, rfl, hV, hb⟩; replace HL := Aside0.mk (Kd.C_below HL.out hb); replace HW := Aside0.mk (Kd.C_below HW.out hb); replace HB := Aside0.mk (below_step HB.out hb); have hcv := own_string (P := Try.prog) Try.underlying27 Try.underlying5 Try.underlying9 (Kd.own_of_R hV); have HV := Aside0.mk hV; clear hb hV HT)
    | (go_at_call 21; refine Calls.mono (refVals_fit L A3 c3 A4 c4 D _ HL.out HLc.out HW.out HWc.out HF.out HD.out) ?_; rintro e ws ⟨vs, rfl, hS, hb⟩; replace HB := Aside0.mk (below_step HB.out hb); clear hcv; have hcv := own_string (P := Try.prog) Try.underlying27 Try.underlying5 Try.underlying9 (Kd.own_of_R (Kd.R_below HV.out hb)); have hcs := own_string (P := Try.prog) Try.underlying27 Try.underlying5 Try.underlying9 (Kd.own_of_R hS); clear hb hS))
  all_goals go_wp2_with fail
  all_goals go_ret
  all_goals exact ⟨rfl, HB.out⟩
theorem trieValues_row (l : List S39) (A : Option Addr) (c : Nat) (wd : List Int) (A2 : Option Addr) (c2 : Nat) (fit : Bool) (w : World) (hl : Kd.C k39 w A l.length l) (hlc : l.length ≤ c) (hp : Pats l)
    (hw : Kd.C (Kd.int .i32) w A2 wd.length wd) (hwc : wd.length ≤ c2) (h32 : ∀ r ∈ wd, In32 r) :
    Calls Try.prog 3 #[.slice A l.length c, .slice A2 wd.length c2, .bool fit] w fun e w' => e = .returned (.bool true) ∧ Below w.heap.size w w' :=
  trieValues_walk l A c wd A2 c2 fit w hl hlc hw hwc hp h32
end Go.Proofs.Ytoefjhdcipgacaa.Tr
