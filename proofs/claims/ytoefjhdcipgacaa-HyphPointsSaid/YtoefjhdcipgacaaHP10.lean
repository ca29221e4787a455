/-
  Part 10 of what the law HyphPoints rests on: contracts of the functions that it calls, and plain laws of what they compute.
-/
import Derived.Maps.OwnSet
import Derived.Maps.OwnOps
import Derived.Test.YtoefjhdcipgacaaHP1
import Derived.Test.YtoefjhdcipgacaaHP6
section
namespace Go.Proofs.Ytoefjhdcipgacaa.Tr
open Go.RowKit Go.Proofs.YtoefjhdcipgacaaW.PrintWords Go.Proofs.YtoefjhdcipgacaaW.PrintLast Go.Proofs.YtoefjhdcipgacaaW.PrintMore
open Go.Maps (Keyed int_keyed)
theorem law21 : Keyed Try.prog 21 := int_keyed Try.underlying21
theorem zero3 (w : World) : (zeroValue 3).run Try.prog w = .ok (.int .i64 0) w := by kernel_rfl
theorem info90 : (Try.prog.info? 90).map (fun i => (i.zero, i.size, i.bytes)) = some (some (.agg #[.map none, .slice none 0 0]), 2, 32) := by kernel_rfl
theorem size88 : (Try.prog.info? 88).map (·.size) = some 1 := by kernel_rfl
theorem size84 : (Try.prog.info? 84).map (·.size) = some 1 := by kernel_rfl
theorem size27 : (Try.prog.info? 27).map (·.size) = some 1 := by kernel_rfl
def In32 (r : Int) : Prop := -2147483648 ≤ r ∧ r ≤ 2147483647
theorem In32.wf {r : Int} (h : In32 r) : (Lit.int .i32 r).wf = true := by
  obtain ⟨h1, h2⟩ := h
  simp [Lit.wf, IntKind.min, IntKind.max, IntKind.signed, IntKind.bits]
  omega
def MapSays (w : World) (b n : Nat) (f : Int → Option Nat) : Prop :=
  ∃ D : DataW Unit, w.ownsMap Try.prog 21 (plainElem Try.prog 3) b n D ∧ Maps.IsMap D ∧
    ∀ r, In32 r → Maps.has D (.int .i32 r) = (f r).isSome ∧ D.atKey (.int .i32 r) (.lit (.int .i64 0)) = .lit (.int .i64 (((f r).getD 0 : Nat) : Int))
def MapIs (w : World) (m : Option Nat) (n : Nat) (f : Int → Option Nat) : Prop :=
  match m with
  | none => ∀ r, In32 r → f r = none
  | some b => MapSays w b n f
theorem ownsMap_move {w w1 : World} {b n : Nat} {D : DataW Unit} (h : w.ownsMap Try.prog 21 (plainElem Try.prog 3) b n D) (hm : w1.heap[b]? = w.heap[b]?) : w1.ownsMap Try.prog 21 (plainElem Try.prog 3) b n D := by
  obtain ⟨es, clock, hb, r⟩ := h
  exact ⟨es, clock, hm.trans hb, r⟩
theorem MapSays.move {w w1 : World} {b n : Nat} {f : Int → Option Nat} (h : MapSays w b n f) (hm : w1.heap[b]? = w.heap[b]?) : MapSays w1 b n f := by
  obtain ⟨D, h1, h2⟩ := h
  exact ⟨D, ownsMap_move h1 hm, h2⟩
theorem MapSays.mono {w : World} {b n n' : Nat} {f : Int → Option Nat} (h : MapSays w b n f) (hn : n ≤ n') : MapSays w b n' f := by
  obtain ⟨D, h1, h2⟩ := h
  exact ⟨D, h1.mono hn, h2⟩
theorem MapSays.block {w : World} {b n : Nat} {f : Int → Option Nat} (h : MapSays w b n f) : ∃ es clock, w.heap[b]? = some (.map es clock) := by
  obtain ⟨D, ⟨es, clock, hb, _⟩, _⟩ := h
  exact ⟨es, clock, hb⟩
theorem MapSays.congr {w : World} {b n : Nat} {f f' : Int → Option Nat} (h : MapSays w b n f) (hf : ∀ r, f r = f' r) : MapSays w b n f' := by
  have : f = f' := funext hf
  exact this ▸ h
theorem MapIs.move {w w1 : World} {m : Option Nat} {n : Nat} {f : Int → Option Nat} (h : MapIs w m n f) (hm : ∀ b, m = some b → w1.heap[b]? = w.heap[b]?) : MapIs w1 m n f := by
  cases m with
  | none => exact h
  | some b => exact MapSays.move h (hm b rfl)
theorem MapIs.mono {w : World} {m : Option Nat} {n n' : Nat} {f : Int → Option Nat} (h : MapIs w m n f) (hn : n ≤ n') : MapIs w m n' f := by
  cases m with
  | none => exact h
  | some b => exact MapSays.mono h hn
theorem MapIs.congr {w : World} {m : Option Nat} {n : Nat} {f f' : Int → Option Nat} (h : MapIs w m n f) (hf : ∀ r, f r = f' r) : MapIs w m n f' := by
  have : f = f' := funext hf
  exact this ▸ h
theorem MapSays.put {w : World} {b n : Nat} {f : Int → Option Nat} {D : DataW Unit} (hD : Maps.IsMap D) (hf : ∀ r, In32 r → Maps.has D (.int .i32 r) = (f r).isSome ∧ D.atKey (.int .i32 r) (.lit (.int .i64 0)) = .lit (.int .i64 (((f r).getD 0 : Nat) : Int)))
    {r : Int} {m : Nat} (h : w.ownsMap Try.prog 21 (plainElem Try.prog 3) b n (D.put (.int .i32 r) (.lit (.int .i64 (m : Int))))) : MapSays w b n (fun s => if s = r then some m else f s) := by
  refine ⟨_, h, hD.put _ _, fun s hs => ?_⟩
  by_cases e : s = r
  · subst e
    simp only [if_true]
    exact ⟨Maps.has_put_same hD (by trivial) _, Maps.atKey_put_same hD (by trivial) _ _⟩
  · simp only [if_neg e]
    have hne : (Lit.int .i32 s) ≠ Lit.int .i32 r := by
      intro h
      injection h with _ h
      exact e h
    rw [Maps.has_put_other hne, Maps.atKey_put_other hne]
    exact hf s hs
theorem MapIs.look {w : World} {m : Option Nat} {n : Nat} {f : Int → Option Nat} (h : MapIs w m n f) {r : Int} (hr : In32 r) :
    (Instr.lookup 88 (.map m) (.int .i32 r) true).run Try.prog w = .ok (.tuple #[.int .i64 (((f r).getD 0 : Nat) : Int), .bool (f r).isSome]) w := by
  have hkey : keyOf Try.prog 21 (.int .i32 r) = some (.int .i32 r) := Maps.keyOf_int_mk Try.underlying21 hr.wf
  cases m with
  | none =>
    have hn : f r = none := h r hr
    rw [hn]
    exact Maps.look_nil true law21 Try.underlying88 (zero3 w) hkey
  | some b =>
    obtain ⟨D, h1, h2, h3⟩ := h
    obtain ⟨v, ps, hrun, hv⟩ := h1.look_ok law21 Try.underlying88 (zero3 w) (plainElem_int Try.underlying3 (WalkArith.wf_i64 (by omega))) hkey
    obtain ⟨e1, e2⟩ := h3 r hr
    rw [e2] at hv
    obtain ⟨c, rfl, hc, _⟩ := plainElem_int_inv Try.underlying3 hv
    have hc1 : (DataW.lit (Lit.int .i64 (((f r).getD 0 : Nat) : Int)) : DataW Unit) = .lit (.int .i64 c) := congrArg Prod.fst hc
    have hc2 : (((f r).getD 0 : Nat) : Int) = c := (Lit.int.inj (DataW.lit.inj hc1)).2
    rw [hrun, e1, hc2]
structure TrieM (w : World) (base bt bn cap K : Nat) (xs : List Value) (ms : Nat → Option Nat) (vs : Nat → Value) (T : TM) : Prop where
  ok : T.Ok
  hb : base ≤ bt
  top : w.heap[bt]? = some (.cells #[.slice (some ⟨bn, 0, none⟩) T.n cap] 86 (0, 0))
  row : w.ownsRow base 90 2 (.slice (some ⟨bn, 0, none⟩) T.n cap) T.n xs
  cm : ∀ i, i < T.n → xs[i * 2]? = some (.map (ms i))
  cv : ∀ i, i < T.n → xs[i * 2 + 1]? = some (vs i)
  mb : ∀ i b, ms i = some b → base ≤ b
  mf : ∀ i, T.n ≤ i → ms i = none
  vf : ∀ i, T.n ≤ i → vs i = .slice none 0 0
  mo : ∀ i, MapIs w (ms i) K (T.next i)
  vo : ∀ i, w.ownsRow base 5 1 (vs i) (T.vals i).length (nums .u8 (T.vals i))
  md : ∀ i j b, ms i = some b → ms j = some b → i = j
  vd : ∀ i j, i ≠ j → NeRow (vs i) (vs j)
section
variable {w w1 : World} {base bt bn cap K : Nat} {xs : List Value} {ms : Nat → Option Nat} {vs : Nat → Value} {T : TM}
theorem TrieM.row_block (h : TrieM w base bt bn cap K xs ms vs T) : ∃ cells, w.heap[bn]? = some (.cells cells 90 (0, 0)) := own_typed h.row bn rfl
theorem TrieM.base_bn (h : TrieM w base bt bn cap K xs ms vs T) : base ≤ bn := own_base h.row bn rfl
theorem TrieM.lt_bt (h : TrieM w base bt bn cap K xs ms vs T) : bt < w.heap.size := blk_lt h.top
theorem TrieM.lt_bn (h : TrieM w base bt bn cap K xs ms vs T) : bn < w.heap.size := own_lt h.row bn rfl
theorem TrieM.lt_m (h : TrieM w base bt bn cap K xs ms vs T) {i b : Nat} (hi : ms i = some b) : b < w.heap.size := by
  have h1 := h.mo i
  rw [hi] at h1
  obtain ⟨es, clock, hb⟩ := MapSays.block h1
  exact blk_lt hb
theorem TrieM.lt_v (h : TrieM w base bt bn cap K xs ms vs T) {i b : Nat} (hi : (vs i).ownBlock = some b) : b < w.heap.size := own_lt (h.vo i) b hi
theorem TrieM.bt_bn (h : TrieM w base bt bn cap K xs ms vs T) : bt ≠ bn := by
  obtain ⟨cells, hc⟩ := h.row_block
  exact blk_ne h.top hc (by decide)
theorem TrieM.m_cells (h : TrieM w base bt bn cap K xs ms vs T) {i b g t : Nat} {cells : Array Value} (hi : ms i = some b) (hg : w.heap[g]? = some (.cells cells t (0, 0))) : b ≠ g := by
  have h1 := h.mo i
  rw [hi] at h1
  obtain ⟨es, clock, hb⟩ := MapSays.block h1
  rintro rfl
  rw [hb] at hg
  cases hg
theorem TrieM.v_cells (h : TrieM w base bt bn cap K xs ms vs T) {i g t : Nat} {cells : Array Value} (hg : w.heap[g]? = some (.cells cells t (0, 0))) (ht : (5 : Nat) ≠ t) : (vs i).ownBlock ≠ some g := by
  intro e
  exact own_ne (h.vo i) hg ht e.symm
theorem TrieM.move (h : TrieM w base bt bn cap K xs ms vs T) (hm : ∀ k, base ≤ k → k < w.heap.size → w1.heap[k]? = w.heap[k]?) : TrieM w1 base bt bn cap K xs ms vs T where
  ok := h.ok
  hb := h.hb
  top := (hm bt h.hb h.lt_bt).trans h.top
  row := own_move h.row (fun k hk => hm k (own_base h.row k hk) (own_lt h.row k hk))
  cm := h.cm
  cv := h.cv
  mb := h.mb
  mf := h.mf
  vf := h.vf
  mo := fun i => (h.mo i).move (fun b hb => hm b (h.mb i b hb) (h.lt_m hb))
  vo := fun i => own_move (h.vo i) (fun k hk => hm k (own_base (h.vo i) k hk) (own_lt (h.vo i) k hk))
  md := h.md
  vd := h.vd
theorem TrieM.below (h : TrieM w base bt bn cap K xs ms vs T) (hb : Below w.heap.size w w1) : TrieM w1 base bt bn cap K xs ms vs T := h.move (fun k _ hk => hb.block k hk)
theorem TrieM.alloc (h : TrieM w base bt bn cap K xs ms vs T) (o : Obj) : TrieM (w.alloc o) base bt bn cap K xs ms vs T := h.below (below_alloc (Below.refl _ _) o)
theorem TrieM.drew (h : TrieM w base bt bn cap K xs ms vs T) : TrieM w.drew base bt bn cap K xs ms vs T := h.below (below_drew (Below.refl _ _))
theorem TrieM.cellT (h : TrieM w base bt bn cap K xs ms vs T) : w.cell? ⟨bt, 0, none⟩ = some (.slice (some ⟨bn, 0, none⟩) T.n cap) := by
  rw [blk_cell h.top]; rfl
theorem TrieM.cellM (h : TrieM w base bt bn cap K xs ms vs T) {i : Nat} (hi : i < T.n) : w.cell? ⟨bn, i * 2, none⟩ = some (.map (ms i)) := by
  rw [h.row.cellAt _ (by omega)]; exact h.cm i hi
theorem TrieM.cellV (h : TrieM w base bt bn cap K xs ms vs T) {i : Nat} (hi : i < T.n) : w.cell? ⟨bn, i * 2 + 1, none⟩ = some (vs i) := by
  rw [h.row.cellAt _ (by omega)]; exact h.cv i hi
theorem TrieM.cells_bn (h : TrieM w base bt bn cap K xs ms vs T) : ∃ cells, w.heap[bn]? = some (.cells cells 90 (0, 0)) ∧ T.n * 2 ≤ cells.size := by
  rcases h.row.2 with ⟨h', _⟩ | ⟨g', cap', cur, h', _, hh, h1, h2, h3, _⟩
  · simp at h'
  · simp only [Value.slice.injEq, Option.some.injEq, Addr.mk.injEq, and_true, true_and] at h'
    obtain ⟨rfl, rfl⟩ := h'
    exact ⟨cur, hh, by omega⟩
theorem TrieM.newMap (h : TrieM w base bt bn cap K xs ms vs T) {i : Nat} (hi : i < T.n) (hm : ms i = none) :
    TrieM ((w.alloc (.map #[] 0)).setCell ⟨bn, i * 2, none⟩ (.map (some w.heap.size))) base bt bn cap K (xs.set (i * 2) (.map (some w.heap.size))) (fun j => if j = i then some w.heap.size else ms j) vs T := by
  have h1 := h.alloc (.map #[] 0)
  obtain ⟨cells, hc⟩ := h1.row_block
  have hfar : ∀ k, k ≠ bn → ((w.alloc (.map #[] 0)).setCell ⟨bn, i * 2, none⟩ (.map (some w.heap.size))).heap[k]? = (w.alloc (.map #[] 0)).heap[k]? := fun k hk => Below.heap_setCell _ ⟨bn, i * 2, none⟩ _ k hk
  have hbn := h.lt_bn
  refine ⟨h.ok, h.hb, (hfar bt h1.bt_bn).trans h1.top, (h1.row.stored _ _).1, ?_, ?_, ?_, ?_, h.vf, ?_, ?_, ?_, h.vd⟩
  · intro j hj
    by_cases e : j = i
    · subst e
      have : j * 2 < xs.length := by have := h.row.1; omega
      simp [this]
    · rw [List.getElem?_set_ne (by omega), if_neg e]
      exact h.cm j hj
  · intro j hj
    rw [List.getElem?_set_ne (by omega)]
    exact h.cv j hj
  · intro j b hb
    by_cases e : j = i
    · simp only [if_pos e] at hb
      injection hb with hb
      have := h.base_bn
      omega
    · simp only [if_neg e] at hb
      exact h.mb j b hb
  · intro j hj
    simp only [if_neg (show j ≠ i by omega)]
    exact h.mf j hj
  · intro j
    by_cases e : j = i
    · subst e
      simp only [if_true]
      have hn : ∀ r, In32 r → T.next j r = none := by have := h.mo j; rw [hm] at this; exact this
      refine MapSays.move (w := w.alloc (.map #[] 0)) ?_ (hfar _ (by omega))
      refine ⟨.map [], (World.ownsMap_made w Try.prog 21 _).mono (Nat.zero_le _), Maps.isMap_empty, fun r hr => ?_⟩
      rw [hn r hr]
      exact ⟨rfl, rfl⟩
    · simp only [if_neg e]
      refine (h1.mo j).move (fun b hb => hfar b ?_)
      exact h1.m_cells hb hc
  · intro j
    refine own_move (h1.vo j) (fun k hk => hfar k ?_)
    intro e
    subst e
    exact h1.v_cells hc (by decide) hk
  · intro a b c ha hb
    by_cases e1 : a = i <;> by_cases e2 : b = i
    · omega
    · simp only [if_pos e1] at ha
      simp only [if_neg e2] at hb
      injection ha with ha
      have := h.lt_m hb
      omega
    · simp only [if_neg e1] at ha
      simp only [if_pos e2] at hb
      injection hb with hb
      have := h.lt_m ha
      omega
    · simp only [if_neg e1] at ha
      simp only [if_neg e2] at hb
      exact h.md a b c ha hb
theorem TrieM.addNode (h : TrieM w base bt bn cap K xs ms vs T) {i b : Nat} {r : Int} {D : DataW Unit} (hi : i < T.n) (hm : ms i = some b)
    (hD : Maps.IsMap D) (hf : ∀ r, In32 r → Maps.has D (.int .i32 r) = (T.next i r).isSome ∧ D.atKey (.int .i32 r) (.lit (.int .i64 0)) = .lit (.int .i64 (((T.next i r).getD 0 : Nat) : Int)))
    (h1 : w1.ownsMap Try.prog 21 (plainElem Try.prog 3) b (K + 1) (D.put (.int .i32 r) (.lit (.int .i64 (T.n : Int))))) (hg1 : w.grownBy w1 (some b))
    {w2 : World} {g cap' : Nat} (h2 : w2.ownsRow base 90 2 (.slice (some ⟨g, 0, none⟩) (T.n + 1) cap') (T.n + 1) (xs ++ [.map none, .slice none 0 0])) (hg2 : w1.grownBy w2 (some bn)) (hat : g = bn ∨ w1.heap.size ≤ g) :
    TrieM (w2.setCell ⟨bt, 0, none⟩ (.slice (some ⟨g, 0, none⟩) (T.n + 1) cap')) base bt g cap' (K + 1) (xs ++ [.map none, .slice none 0 0]) ms vs (T.add i r) := by
  obtain ⟨cells, hc⟩ := h.row_block
  have hbt : w1.heap[bt]? = w.heap[bt]? := hg1.block bt h.lt_bt (by intro e; injection e with e; exact h.m_cells hm h.top e.symm)
  have hbt2 : w2.heap[bt]? = some (.cells #[.slice (some ⟨bn, 0, none⟩) T.n cap] 86 (0, 0)) := (hg2.block bt (Nat.lt_of_lt_of_le h.lt_bt hg1.size) (by intro e; injection e with e; exact h.bt_bn e)).trans (hbt.trans h.top)
  have hfar : ∀ k, k ≠ bt → (w2.setCell ⟨bt, 0, none⟩ (.slice (some ⟨g, 0, none⟩) (T.n + 1) cap')).heap[k]? = w2.heap[k]? := fun k hk => Below.heap_setCell _ ⟨bt, 0, none⟩ _ k hk
  have hstay : ∀ k, k < w.heap.size → k ≠ b → k ≠ bn → k ≠ bt → (w2.setCell ⟨bt, 0, none⟩ (.slice (some ⟨g, 0, none⟩) (T.n + 1) cap')).heap[k]? = w.heap[k]? := fun k hk hb1 hb2 hb3 =>
    (hfar k hb3).trans ((hg2.block k (Nat.lt_of_lt_of_le hk hg1.size) (by intro e; injection e with e; exact hb2 e)).trans (hg1.block k hk (by intro e; injection e with e; exact hb1 e)))
  have hgbt : g ≠ bt := by
    rcases hat with rfl | hat
    · exact fun e => h.bt_bn e.symm
    · have := h.lt_bt; have := hg1.size; omega
  have hlen : xs.length = T.n * 2 := h.row.1
  refine ⟨h.ok.add hi r, h.hb, ?_, ?_, ?_, ?_, h.mb, ?_, ?_, ?_, ?_, h.md, h.vd⟩
  · have := blk_set hbt2 0 (.slice (some ⟨g, 0, none⟩) (T.n + 1) cap')
    simpa [TM.add] using this
  · exact own_move h2 (fun k hk => hfar k (by have : g = k := by simpa [Value.ownBlock] using hk
                                              omega))
  · intro j hj
    simp only [TM.add] at hj
    by_cases e : j = T.n
    · subst e
      rw [List.getElem?_append_right (by omega), show T.n * 2 - xs.length = 0 by omega, h.mf _ (Nat.le_refl _)]
      rfl
    · rw [List.getElem?_append_left (by omega)]
      exact h.cm j (by omega)
  · intro j hj
    simp only [TM.add] at hj
    by_cases e : j = T.n
    · subst e
      rw [List.getElem?_append_right (by omega), show T.n * 2 + 1 - xs.length = 1 by omega, h.vf _ (Nat.le_refl _)]
      rfl
    · rw [List.getElem?_append_left (by omega)]
      exact h.cv j (by omega)
  · intro j hj
    simp only [TM.add] at hj
    exact h.mf j (by omega)
  · intro j hj
    simp only [TM.add] at hj
    exact h.vf j (by omega)
  · intro j
    by_cases e : j = i
    · subst e
      rw [hm]
      have h3 : MapSays w1 b (K + 1) (fun s => if s = r then some T.n else T.next j s) := MapSays.put hD hf h1
      have hbne : b ≠ bn := h.m_cells hm hc
      have hbnt : b ≠ bt := h.m_cells hm h.top
      refine MapSays.congr (h3.move ((hfar b hbnt).trans (hg2.block b (Nat.lt_of_lt_of_le (h.lt_m hm) hg1.size) (by intro e; injection e with e; exact hbne e)))) ?_
      intro s
      simp [TM.add]
    · refine MapIs.congr ((h.mo j).move (fun b' hb' => hstay b' (h.lt_m hb') ?_ (h.m_cells hb' hc) (h.m_cells hb' h.top)) |>.mono (Nat.le_succ _)) ?_
      · intro e'
        subst e'
        exact e (h.md j i b' hb' hm)
      · intro s
        simp [TM.add, e]
  · intro j
    refine own_move (h.vo j) (fun k hk => hstay k (h.lt_v hk) ?_ ?_ ?_)
    · intro e
      subst e
      obtain ⟨cs, hcs⟩ := own_typed (h.vo j) k hk
      exact h.m_cells hm hcs rfl
    · intro e
      subst e
      exact h.v_cells hc (by decide) hk
    · intro e
      subst e
      exact h.v_cells h.top (by decide) hk
theorem TrieM.growVal (h : TrieM w base bt bn cap K xs ms vs T) {i : Nat} (hi : i < T.n) {v1 : Value} {ys : List Int} (h1 : w1.ownsRow base 5 1 v1 ys.length (nums .u8 ys)) (hg : w.grownBy w1 (vs i).ownBlock)
    (hat : v1.ownBlock = (vs i).ownBlock ∨ ∃ b, v1.ownBlock = some b ∧ w.heap.size ≤ b) :
    TrieM (w1.setCell ⟨bn, i * 2 + 1, none⟩ v1) base bt bn cap K (xs.set (i * 2 + 1) v1) ms (fun j => if j = i then v1 else vs j) (T.setVals i ys) := by
  obtain ⟨cells, hc⟩ := h.row_block
  have hrow1 : w1.ownsRow base 90 2 (.slice (some ⟨bn, 0, none⟩) T.n cap) T.n xs := h.row.kept hg (.inr (by
    intro e
    exact h.v_cells hc (by decide) (e.symm.trans rfl)))
  obtain ⟨cells1, hc1⟩ := own_typed hrow1 bn rfl
  have hfar : ∀ k, k ≠ bn → (w1.setCell ⟨bn, i * 2 + 1, none⟩ v1).heap[k]? = w1.heap[k]? := fun k hk => Below.heap_setCell _ ⟨bn, i * 2 + 1, none⟩ _ k hk
  have hstay : ∀ k, k < w.heap.size → some k ≠ (vs i).ownBlock → k ≠ bn → (w1.setCell ⟨bn, i * 2 + 1, none⟩ v1).heap[k]? = w.heap[k]? := fun k hk h1 h2 => (hfar k h2).trans (hg.block k hk h1)
  refine ⟨h.ok.setVals hi ys, h.hb, ?_, (hrow1.stored _ _).1, ?_, ?_, h.mb, h.mf, ?_, ?_, ?_, h.md, ?_⟩
  · exact (hstay bt h.lt_bt (fun e => h.v_cells h.top (by decide) e.symm) h.bt_bn).trans h.top
  · intro j hj
    rw [List.getElem?_set_ne (by omega)]
    exact h.cm j hj
  · intro j hj
    by_cases e : j = i
    · subst e
      have : j * 2 + 1 < xs.length := by have := h.row.1; omega
      simp [this]
    · rw [List.getElem?_set_ne (by omega), if_neg e]
      exact h.cv j hj
  · intro j hj
    have : j ≠ i := by simp only [TM.setVals] at hj; omega
    simp only [if_neg this]
    exact h.vf j hj
  · intro j
    refine (h.mo j).move (fun b hb => hstay b (h.lt_m hb) ?_ (h.m_cells hb hc))
    intro e
    obtain ⟨cs, hcs⟩ := own_typed (h.vo i) b e.symm
    exact h.m_cells hb hcs rfl
  · intro j
    by_cases e : j = i
    · subst e
      simp only [TM.setVals, if_true]
      refine own_move h1 (fun k hk => hfar k ?_)
      intro e
      subst e
      obtain ⟨cs, hcs⟩ := own_typed h1 k hk
      rw [hc1] at hcs
      injection hcs with hcs
      injection hcs with _ hcs
      exact absurd hcs (by decide)
    · simp only [TM.setVals, if_neg e]
      refine own_move (h.vo j) (fun k hk => hstay k (h.lt_v hk) ?_ ?_)
      · intro e2
        exact h.vd j i e k hk e2.symm
      · intro e
        subst e
        exact h.v_cells hc (by decide) hk
  · have key : ∀ j, j ≠ i → NeRow v1 (vs j) := by
      intro j hj
      exact ne_append (h.vd i j (Ne.symm hj)) hat (h.vo j)
    intro a b hab
    by_cases e1 : a = i <;> by_cases e2 : b = i
    · omega
    · simp only [if_pos e1, if_neg e2]
      exact key b e2
    · simp only [if_neg e1, if_pos e2]
      exact ne_symm (key a e1)
    · simp only [if_neg e1, if_neg e2]
      exact h.vd a b hab
theorem TrieM.putVal (h : TrieM w base bt bn cap K xs ms vs T) {i : Nat} (hi : i < T.n) {g len c : Nat} (hv : vs i = .slice (some ⟨g, 0, none⟩) len c) (k : Nat) (y : Int) :
    TrieM (w.setCell ⟨g, k, none⟩ (.int .u8 y)) base bt bn cap K xs ms vs (T.setVals i ((T.vals i).set k y)) := by
  have hvo := h.vo i
  have hg : (vs i).ownBlock = some g := by rw [hv]; rfl
  have hlen : len = (T.vals i).length := by
    rw [hv] at hvo
    rcases hvo.2 with ⟨h', _⟩ | ⟨g', cap', cur, h', _, _, h1, h2, _⟩
    · simp at h'
    · injection h'
  subst hlen
  obtain ⟨cg, hcg⟩ := own_typed hvo g hg
  have hfar : ∀ j, j ≠ g → (w.setCell ⟨g, k, none⟩ (.int .u8 y)).heap[j]? = w.heap[j]? := fun j hj => Below.heap_setCell _ ⟨g, k, none⟩ _ j hj
  refine ⟨h.ok.setVals hi _, h.hb, ?_, ?_, h.cm, h.cv, h.mb, h.mf, h.vf, ?_, ?_, h.md, h.vd⟩
  · exact (hfar bt (by rintro rfl; exact h.v_cells h.top (by decide) hg)).trans h.top
  · refine own_move h.row (fun j hj => hfar j ?_)
    rintro rfl
    obtain ⟨cells, hc⟩ := own_typed h.row j hj
    exact h.v_cells hc (by decide) hg
  · intro j
    refine (h.mo j).move (fun b hb => hfar b (h.m_cells hb hcg))
  · intro j
    by_cases e : j = i
    · subst e
      simp only [TM.setVals, if_true, List.length_set]
      rw [hv] at hvo ⊢
      have := (own_store hvo (k : Int) y).1
      simpa using this
    · simp only [TM.setVals, if_neg e]
      refine own_move (h.vo j) (fun q hq => hfar q ?_)
      rintro rfl
      exact h.vd j i e q hq hg
end
theorem TrieM.side_newMap {w : World} {base bt bn cap K : Nat} {xs : List Value} {ms : Nat → Option Nat} {vs : Nat → Value} {T : TM} (h : TrieM w base bt bn cap K xs ms vs T) {g : Nat} {cs : Array Value}
    (hp : w.heap[g]? = some (.cells cs 39 (0, 0))) (o : Obj) (j : Nat) (u : Value) : ((w.alloc o).setCell ⟨bn, j, none⟩ u).heap[g]? = some (.cells cs 39 (0, 0)) := by
  obtain ⟨cells, hc⟩ := h.row_block
  exact blk_far (p := ⟨bn, j, none⟩) (blk_alloc hp o) (blk_ne hp hc (by decide)) u
theorem TrieM.side_addNode {w w1 w2 : World} {base bt bn cap K : Nat} {xs : List Value} {ms : Nat → Option Nat} {vs : Nat → Value} {T : TM} (h : TrieM w base bt bn cap K xs ms vs T) {g i b : Nat} {cs : Array Value} (hm : ms i = some b)
    (hp : w.heap[g]? = some (.cells cs 39 (0, 0))) (hg1 : w.grownBy w1 (some b)) (hg2 : w1.grownBy w2 (some bn)) (u : Value) : (w2.setCell ⟨bt, 0, none⟩ u).heap[g]? = some (.cells cs 39 (0, 0)) := by
  obtain ⟨cells, hc⟩ := h.row_block
  have h1 := blk_grown hp hg1 (by intro e; injection e with e; exact h.m_cells hm hp e.symm)
  have h2 := blk_grown h1 hg2 (by intro e; injection e with e; exact blk_ne hp hc (by decide) e)
  exact blk_far (p := ⟨bt, 0, none⟩) h2 (blk_ne hp h.top (by decide)) u
theorem TrieM.top_addNode {w w1 w2 : World} {base bt bn cap K : Nat} {xs : List Value} {ms : Nat → Option Nat} {vs : Nat → Value} {T : TM} (h : TrieM w base bt bn cap K xs ms vs T) {i b : Nat} (hm : ms i = some b)
    (hg1 : w.grownBy w1 (some b)) (hg2 : w1.grownBy w2 (some bn)) : w1.heap[bt]? = some (.cells #[.slice (some ⟨bn, 0, none⟩) T.n cap] 86 (0, 0)) ∧ w2.heap[bt]? = some (.cells #[.slice (some ⟨bn, 0, none⟩) T.n cap] 86 (0, 0)) := by
  have h1 := blk_grown h.top hg1 (by intro e; injection e with e; exact h.m_cells hm h.top e.symm)
  exact ⟨h1, blk_grown h1 hg2 (by intro e; injection e with e; exact h.bt_bn e)⟩
theorem TrieM.row_put {w w1 : World} {base bt bn cap K : Nat} {xs : List Value} {ms : Nat → Option Nat} {vs : Nat → Value} {T : TM} (h : TrieM w base bt bn cap K xs ms vs T) {i b : Nat} (hm : ms i = some b)
    (hg1 : w.grownBy w1 (some b)) : w1.ownsRow base 90 2 (.slice (some ⟨bn, 0, none⟩) T.n cap) T.n xs := by
  obtain ⟨cells, hc⟩ := h.row_block
  refine h.row.kept hg1 (.inr ?_)
  intro e
  have : bn = b := by simpa [Value.ownBlock] using e
  exact h.m_cells hm hc this.symm
theorem setVals_again (T : TM) (i : Nat) (xs ys : List Int) : (T.setVals i xs).setVals i ys = T.setVals i ys := by
  simp only [TM.setVals, TM.mk.injEq, true_and]
  funext j
  by_cases h : j = i <;> simp [h]
theorem setVals_same (T : TM) (i : Nat) : T.setVals i (T.vals i) = T := by
  cases T
  simp only [TM.setVals, TM.mk.injEq, true_and]
  funext j
  by_cases h : j = i <;> simp [h]
theorem mergeTo_next {T1 T2 : TM} {i q : Nat} {ps : List Int} (hT2 : T1.setVals i (mergeTo (T1.vals i) ps q) = T2) {L : List Int} (hL : room (T2.vals i) q = L) {x v y : Int} (hx : rd L (q : Int) = x) (hv : rd ps (q : Int) = v) (hy : y = max x v) :
    T1.setVals i (mergeTo (T1.vals i) ps (q + 1)) = T2.setVals i (L.set q y) := by
  have h1 : T2.vals i = mergeTo (T1.vals i) ps q := by rw [← hT2]; simp [TM.setVals]
  have h2 : mergeTo (T1.vals i) ps (q + 1) = L.set q y := by
    rw [mergeTo_succ, ← h1]
    unfold mergeAt
    rw [hL, hy, ← hx, ← hv]
    simp [rd]
  rw [h2, ← hT2, setVals_again]
theorem TrieM.round_fit {wr : World} {base bt bn cap K : Nat} {xs : List Value} {ms : Nat → Option Nat} {vs : Nat → Value} {T1 T2 : TM} (h : TrieM wr base bt bn cap K xs ms vs T2) {i q g len c : Nat} {ps : List Int} (hi : i < T2.n) (hvs : vs i = .slice (some ⟨g, 0, none⟩) len c)
    (hT2 : T1.setVals i (mergeTo (T1.vals i) ps q) = T2) (hq : q < (T2.vals i).length) {x v y : Int} (hx : rd (T2.vals i) (q : Int) = x) (hv : rd ps (q : Int) = v) (hy : y = max x v) :
    TrieM ((wr.setCell ⟨g, q, none⟩ (.int .u8 y)).drew) base bt bn cap K xs ms vs (T1.setVals i (mergeTo (T1.vals i) ps (q + 1))) := by
  rw [mergeTo_next hT2 (L := T2.vals i) (by unfold room; rw [if_neg (by omega)]) hx hv hy]
  exact (h.putVal hi hvs q y).drew
theorem TrieM.round_grown {wr : World} {base bt bn cap K : Nat} {xs : List Value} {ms : Nat → Option Nat} {vs : Nat → Value} {T1 T2 : TM} {i q g len c : Nat} {ps L : List Int} (h : TrieM wr base bt bn cap K xs ms vs (T2.setVals i L)) (hi : i < T2.n) (hvs : vs i = .slice (some ⟨g, 0, none⟩) len c)
    (hT2 : T1.setVals i (mergeTo (T1.vals i) ps q) = T2) (hL : T2.vals i ++ [0] = L) (hq : (T2.vals i).length ≤ q) {x v y : Int} (hx : rd L (q : Int) = x) (hv : rd ps (q : Int) = v) (hy : y = max x v) :
    TrieM ((wr.setCell ⟨g, q, none⟩ (.int .u8 y)).drew) base bt bn cap K xs ms vs (T1.setVals i (mergeTo (T1.vals i) ps (q + 1))) := by
  rw [mergeTo_next hT2 (L := L) (by unfold room; rw [if_pos hq, hL]) hx hv hy]
  have h1 := (h.putVal (i := i) hi hvs q y).drew
  rw [setVals_again] at h1
  have h2 : (T2.setVals i L).vals i = L := by simp [TM.setVals]
  rwa [h2] at h1
theorem TrieM.cells_grow {w w1 : World} {base bt bn cap K : Nat} {xs : List Value} {ms : Nat → Option Nat} {vs : Nat → Value} {T : TM} (h : TrieM w base bt bn cap K xs ms vs T) {i : Nat} (hg : w.grownBy w1 (vs i).ownBlock) : ∃ cells, w1.heap[bn]? = some (.cells cells 90 (0, 0)) ∧ T.n * 2 ≤ cells.size := by
  obtain ⟨cells, hc, hs⟩ := h.cells_bn
  exact ⟨cells, blk_grown hc hg (fun e => h.v_cells hc (by decide) e.symm), hs⟩
section
variable {P : Program} {ops : Array Oper} {rest : List Oper} {o : Oper} {a : Act} {Q : Exit → Act → World → Prop}
theorem store1 {W : World} {g off : Nat} {e : TypeId} {cur : Array Value} {u : Value} (hN : o.dst = none) (hgd : o.guard = none) (t : TypeId) (p x : Operand) (ho : o.op = .store t p x)
    (haddr : a.eval p = .pointer (some ⟨g, off, none⟩)) (hx : a.eval x = u) (hu : u.cells.toList = [u]) (ht : (P.info? t).map (·.size) = some 1) (h1 : u.oneCell' = true)
    (hh : W.heap[g]? = some (.cells cur e (0, 0))) (hfit : off < cur.size) (h : ∀ w1, w1 = W.setCell ⟨g, off, none⟩ u → wpList P ops Q rest a w1) : wpList P ops Q (o :: rest) a W := by
  refine wpList_plain hgd fun K hK => ?_
  have hrun : (Instr.storeAt t (.pointer (some ⟨g, off, none⟩)) u).run P W = .ok () (W.setCell ⟨g, off, none⟩ u) := by
    have := run_store_run (P := P) (w := W) (g := g) (o := off) t u [u] hh hu (by simpa using ht) (by simp; omega) (by intro q hq; rw [List.mem_singleton.1 hq]; exact h1)
    simpa [World.setCells] using this
  unfold Oper.wp execOp
  simp only [ho, haddr, hx, Sem.run_bind, Sem.run_pure, Result.andThen_ok, hrun]
  show K (a.put o.dst undef) _
  rw [hN]
  exact hK a _ (h _ rfl)
end
end Go.Proofs.Ytoefjhdcipgacaa.Tr
end
