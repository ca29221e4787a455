/-
 Part 1 of what the law HyphPoints rests on: contracts of the functions that it calls, and plain laws of what they compute.
-/
section
namespace Go.Proofs.Ytoefjhdcipgacaa.Tr
structure TM where
 n : Nat
 next : Nat → Int → Option Nat
 vals : Nat → List Int
def TM.init : TM := ⟨1, fun _ _ => none, fun _ => []⟩
def TM.add (T : TM) (i : Nat) (r : Int) : TM := ⟨T.n + 1, fun j s => if j = i ∧ s = r then some T.n else T.next j s, T.vals⟩
def TM.step (s : TM × Nat) (r : Int) : TM × Nat :=
 match s.1.next s.2 r with
 | some m => (s.1, m)
 | none => (s.1.add s.2 r, s.1.n)
def TM.setVals (T : TM) (i : Nat) (xs : List Int) : TM := ⟨T.n, T.next, fun j => if j = i then xs else T.vals j⟩
def room (xs : List Int) (i : Nat) : List Int := if xs.length ≤ i then xs ++ [0] else xs
def mergeAt (xs : List Int) (i : Nat) (v : Int) : List Int := (room xs i).set i (max ((room xs i).getD i 0) v)
def mergeTo (xs vs : List Int) (k : Nat) : List Int := (List.range k).foldl (fun ys i => mergeAt ys i (vs.getD i 0)) xs
def TM.walk (T : TM) (ls : List Int) : TM × Nat := ls.foldl TM.step (T, 0)
def TM.insert (T : TM) (p : List Int × List Int) : TM := (T.walk p.1).1.setVals (T.walk p.1).2 (mergeTo ((T.walk p.1).1.vals (T.walk p.1).2) p.2 p.2.length)
def make (l : List (List Int × List Int)) : TM := l.foldl TM.insert TM.init
structure TM.Ok (T : TM) : Prop where
 pos : 0 < T.n
 far : ∀ i, T.n ≤ i → T.vals i = []
 none : ∀ i r, T.n ≤ i → T.next i r = none
 lt : ∀ i r m, T.next i r = some m → m < T.n
theorem TM.Ok.init : TM.init.Ok := ⟨by decide, fun _ _ => rfl, fun _ _ _ => rfl, fun _ _ _ h => by simp [TM.init] at h⟩
theorem TM.Ok.add {T : TM} (h : T.Ok) {i : Nat} (hi : i < T.n) (r : Int) : (T.add i r).Ok := by
 refine ⟨Nat.succ_pos _, fun j hj => h.far j (by simp only [TM.add] at hj; omega), fun j s hj => ?_, fun j s m hm => ?_⟩
 ·simp only [TM.add] at hj ⊢
  rw [if_neg (by omega)]
  exact h.none j s (by omega)
 ·simp only [TM.add] at hm ⊢
  split at hm
  ·injection hm with hm; omega
  ·have := h.lt j s m hm; omega
theorem TM.Ok.setVals {T : TM} (h : T.Ok) {i : Nat} (hi : i < T.n) (xs : List Int) : (T.setVals i xs).Ok := by
 refine ⟨h.pos, fun j hj => ?_, h.none, h.lt⟩
 simp only [TM.setVals] at hj ⊢
 rw [if_neg (by omega)]
 exact h.far j hj
theorem TM.Ok.step {s : TM × Nat} (h : s.1.Ok) (hs : s.2 < s.1.n) (r : Int) : (TM.step s r).1.Ok ∧ (TM.step s r).2 < (TM.step s r).1.n ∧ s.1.n ≤ (TM.step s r).1.n ∧ (TM.step s r).1.n ≤ s.1.n + 1 := by
 unfold TM.step
 cases hm : s.1.next s.2 r with
 | some m => exact ⟨h, h.lt _ _ _ hm, Nat.le_refl _, Nat.le_succ _⟩
 | none => exact ⟨h.add hs r, Nat.lt_succ_self _, Nat.le_succ _, Nat.le_refl _⟩
theorem TM.Ok.walkTo {s : TM × Nat} (h : s.1.Ok) (hs : s.2 < s.1.n) (ls : List Int) : (ls.foldl TM.step s).1.Ok ∧ (ls.foldl TM.step s).2 < (ls.foldl TM.step s).1.n ∧ s.1.n ≤ (ls.foldl TM.step s).1.n ∧ (ls.foldl TM.step s).1.n ≤ s.1.n + ls.length := by
 induction ls generalizing s with
 | nil => exact ⟨h, hs, Nat.le_refl _, Nat.le_refl _⟩
 | cons r ls ih =>
  obtain ⟨h1, h2, h3, h4⟩ := h.step hs r
  obtain ⟨k1, k2, k3, k4⟩ := ih h1 h2
  simp only [List.foldl_cons, List.length_cons]
  exact ⟨k1, k2, by omega, by omega⟩
theorem TM.Ok.insert {T : TM} (h : T.Ok) (p : List Int × List Int) : (T.insert p).Ok ∧ (T.insert p).n ≤ T.n + p.1.length := by
 obtain ⟨h1, h2, _, h4⟩ := TM.Ok.walkTo (s := (T, 0)) h h.pos p.1
 exact ⟨h1.setVals h2 _, h4⟩
def letters (l : List (List Int × List Int)) : Nat := (l.map fun p => p.1.length).sum
theorem TM.Ok.makeFrom {T : TM} (h : T.Ok) (l : List (List Int × List Int)) : (l.foldl TM.insert T).Ok ∧ (l.foldl TM.insert T).n ≤ T.n + letters l := by
 induction l generalizing T with
 | nil => exact ⟨h, by simp [letters]⟩
 | cons p l ih =>
  obtain ⟨h1, h2⟩ := h.insert p
  obtain ⟨k1, k2⟩ := ih h1
  refine ⟨k1, ?_⟩
  simp only [letters, List.map_cons, List.sum_cons, List.foldl_cons] at *
  omega
theorem TM.Ok.make (l : List (List Int × List Int)) : (make l).Ok ∧ (make l).n ≤ 1 + letters l := TM.Ok.init.makeFrom l
theorem room_length (xs : List Int) (i : Nat) (h : i ≤ xs.length) : (room xs i).length = max xs.length (i + 1) := by
 unfold room; split
 ·rw [List.length_append, List.length_singleton]; omega
 ·omega
theorem mergeAt_length (xs : List Int) (i : Nat) (v : Int) (h : i ≤ xs.length) : (mergeAt xs i v).length = max xs.length (i + 1) := by
 unfold mergeAt; rw [List.length_set, room_length xs i h]
theorem mergeTo_zero (xs vs : List Int) : mergeTo xs vs 0 = xs := rfl
theorem mergeTo_succ (xs vs : List Int) (k : Nat) : mergeTo xs vs (k + 1) = mergeAt (mergeTo xs vs k) k (vs.getD k 0) := by
 unfold mergeTo; rw [List.range_succ, List.foldl_append]; rfl
theorem mergeTo_length (xs vs : List Int) (k : Nat) : (mergeTo xs vs k).length = max xs.length k := by
 induction k with
 | zero => simp [mergeTo_zero]
 | succ k ih => rw [mergeTo_succ, mergeAt_length _ _ _ (by rw [ih]; omega), ih]; omega
def bumpAt (out : List Int) (i : Nat) (v : Int) (s : Nat) : List Int := if 1 ≤ s + i ∧ s + i - 1 < out.length then out.set (s + i - 1) (max (out.getD (s + i - 1) 0) v) else out
def bumpTo (out vs : List Int) (s k : Nat) : List Int := (List.range k).foldl (fun ys i => bumpAt ys i (vs.getD i 0) s) out
def bump (out vs : List Int) (s : Nat) : List Int := bumpTo out vs s vs.length
def TM.run (T : TM) (s : Nat) : List Int → List Int → Nat → List Int
 | out, [], i => bump out (T.vals i) s
 | out, r :: rest, i =>
  match T.next i r with
  | none => bump out (T.vals i) s
  | some m => T.run s (bump out (T.vals i) s) rest m
def valuesTo (T : TM) (whole : List Int) (out : List Int) (k : Nat) : List Int := (List.range k).foldl (fun ys s => T.run s ys (whole.drop s) 0) out
def values (T : TM) (word : List Int) : List Int := valuesTo T (46 :: word ++ [46]) (List.replicate (word.length + 1) 0) (word.length + 2)
theorem bumpAt_length (out : List Int) (i : Nat) (v : Int) (s : Nat) : (bumpAt out i v s).length = out.length := by unfold bumpAt; split <;> simp
theorem bumpTo_zero (out vs : List Int) (s : Nat) : bumpTo out vs s 0 = out := rfl
theorem bumpTo_succ (out vs : List Int) (s k : Nat) : bumpTo out vs s (k + 1) = bumpAt (bumpTo out vs s k) k (vs.getD k 0) s := by
 unfold bumpTo; rw [List.range_succ, List.foldl_append]; rfl
theorem bumpTo_length (out vs : List Int) (s k : Nat) : (bumpTo out vs s k).length = out.length := by
 induction k with
 | zero => rfl
 | succ k ih => rw [bumpTo_succ, bumpAt_length, ih]
theorem bump_length (out vs : List Int) (s : Nat) : (bump out vs s).length = out.length := bumpTo_length _ _ _ _
theorem TM.run_length (T : TM) (s : Nat) (rest : List Int) : ∀ (out : List Int) (i : Nat), (T.run s out rest i).length = out.length := by
 induction rest with
 | nil => intro out i; exact bump_length _ _ _
 | cons r rest ih =>
  intro out i
  unfold TM.run
  split
  ·exact bump_length _ _ _
  ·rw [ih, bump_length]
theorem valuesTo_zero (T : TM) (whole out : List Int) : valuesTo T whole out 0 = out := rfl
theorem valuesTo_succ (T : TM) (whole out : List Int) (k : Nat) : valuesTo T whole out (k + 1) = T.run k (valuesTo T whole out k) (whole.drop k) 0 := by
 unfold valuesTo; rw [List.range_succ, List.foldl_append]; rfl
theorem valuesTo_length (T : TM) (whole out : List Int) (k : Nat) : (valuesTo T whole out k).length = out.length := by
 induction k with
 | zero => rfl
 | succ k ih => rw [valuesTo_succ, TM.run_length, ih]
theorem values_length (T : TM) (word : List Int) : (values T word).length = word.length + 1 := by unfold values; rw [valuesTo_length]; simp
end Go.Proofs.Ytoefjhdcipgacaa.Tr
end
section
namespace Go.Proofs.Ytoefjhdcipgacaa.Tr
abbrev Pat := List Int × List Int
def NN (xs : List Int) : Prop := ∀ k, 0 ≤ xs.getD k 0
theorem NN.of_mem {xs : List Int} (h : ∀ x ∈ xs, 0 ≤ x) : NN xs := by
 intro k
 rcases Nat.lt_or_ge k xs.length with hk | hk
 ·rw [List.getD_eq_getElem?_getD, List.getElem?_eq_getElem hk]
  exact h _ (List.getElem_mem hk)
 ·rw [List.getD_eq_getElem?_getD, List.getElem?_eq_none hk]
  exact Int.le_refl _
theorem getD_set (xs : List Int) (i k : Nat) (v : Int) (h : i < xs.length) : (xs.set i v).getD k 0 = if k = i then v else xs.getD k 0 := by
 rw [List.getD_eq_getElem?_getD, List.getD_eq_getElem?_getD, List.getElem?_set]
 by_cases e : i = k
 ·subst e; simp [h]
 ·rw [if_neg e, if_neg (fun h => e h.symm)]
theorem getD_room (xs : List Int) (i k : Nat) : (room xs i).getD k 0 = xs.getD k 0 := by
 unfold room
 split
 ·rw [List.getD_eq_getElem?_getD, List.getD_eq_getElem?_getD, List.getElem?_append]
  split
  ·rfl
  ·rename_i h
   rw [List.getElem?_eq_none (by omega : xs.length ≤ k)]
   rcases Nat.lt_or_ge (k - xs.length) 1 with h1 | h1
   ·have : k - xs.length = 0 := by omega
    rw [this]; rfl
   ·rw [List.getElem?_eq_none (by simpa using h1)]
 ·rfl
theorem getD_mergeAt (xs : List Int) (i k : Nat) (v : Int) (h : i ≤ xs.length) : (mergeAt xs i v).getD k 0 = if k = i then max (xs.getD i 0) v else xs.getD k 0 := by
 unfold mergeAt
 rw [getD_set _ _ _ _ (by rw [room_length _ _ h]; omega), getD_room, getD_room]
theorem getD_mergeTo (xs vs : List Int) (n k : Nat) : (mergeTo xs vs n).getD k 0 = if k < n then max (xs.getD k 0) (vs.getD k 0) else xs.getD k 0 := by
 induction n with
 | zero => simp [mergeTo_zero]
 | succ n ih =>
  rw [mergeTo_succ, getD_mergeAt _ _ _ _ (by rw [mergeTo_length]; omega)]
  by_cases h : k = n
  ·subst h
   rw [if_pos rfl, if_pos (Nat.lt_succ_self _), ih, if_neg (Nat.lt_irrefl _)]
  ·rw [if_neg h, ih]
   by_cases h1 : k < n
   ·rw [if_pos h1, if_pos (by omega)]
   ·rw [if_neg h1, if_neg (by omega)]
theorem getD_merge (xs vs : List Int) (hx : NN xs) (k : Nat) : (mergeTo xs vs vs.length).getD k 0 = max (xs.getD k 0) (vs.getD k 0) := by
 rw [getD_mergeTo]
 split
 ·rfl
 ·rename_i h
  have : vs.getD k 0 = 0 := by rw [List.getD_eq_getElem?_getD, List.getElem?_eq_none (by omega)]; rfl
  rw [this]
  have := hx k
  omega
def Vals (l : List Pat) (q xs : List Int) : Prop :=
 ∀ k, 0 ≤ xs.getD k 0 ∧ (∀ p ∈ l, p.1 = q → p.2.getD k 0 ≤ xs.getD k 0) ∧ (xs.getD k 0 = 0 ∨ ∃ p ∈ l, p.1 = q ∧ p.2.getD k 0 = xs.getD k 0)
structure Tri (T : TM) (l : List Pat) (ps : List (List Int)) : Prop where
 ok : T.Ok
 len : ps.length = T.n
 nodup : ps.Nodup
 root : ps[0]? = some []
 closed : ∀ q r, q ++ [r] ∈ ps → q ∈ ps
 next : ∀ i q, ps[i]? = some q → ∀ r m, T.next i r = some m ↔ ps[m]? = some (q ++ [r])
 vals : ∀ i q, ps[i]? = some q → Vals l q (T.vals i)
 cover : ∀ p ∈ l, p.1 ∈ ps
theorem nodup_idx {α : Type} {ps : List α} (h : ps.Nodup) {i j : Nat} {q : α} (hi : ps[i]? = some q) (hj : ps[j]? = some q) : i = j := by
 obtain ⟨h1, e1⟩ := List.getElem?_eq_some_iff.1 hi
 obtain ⟨h2, e2⟩ := List.getElem?_eq_some_iff.1 hj
 have hp := List.pairwise_iff_getElem.1 h
 rcases Nat.lt_trichotomy i j with h3 | h3 | h3
 ·exact absurd (e1.trans e2.symm) (hp i j h1 h2 h3)
 ·exact h3
 ·exact absurd (e2.trans e1.symm) (hp j i h2 h1 h3)
theorem mem_idx {α : Type} {ps : List α} {q : α} (h : q ∈ ps) : ∃ i : Nat, ps[i]? = some q := by
 obtain ⟨i, hi, e⟩ := List.mem_iff_getElem.1 h
 exact ⟨i, by rw [List.getElem?_eq_getElem hi, e]⟩
theorem idx_mem {α : Type} {ps : List α} {q : α} {i : Nat} (h : ps[i]? = some q) : q ∈ ps := by
 obtain ⟨h1, e1⟩ := List.getElem?_eq_some_iff.1 h
 exact e1 ▸ List.getElem_mem h1
theorem Tri.init : Tri TM.init [] [[]] := by
 refine ⟨TM.Ok.init, rfl, by simp, rfl, fun q r h => ?_, fun i q hi r m => ?_, fun i q _ k => ⟨by simp [TM.init], fun p hp => by simp at hp, .inl (by simp [TM.init])⟩, fun p hp => by simp at hp⟩
 ·simp at h
 ·constructor
  ·intro h
   simp [TM.init] at h
  ·intro h
   have := idx_mem h
   simp at this
theorem snoc_inj {q q1 : List Int} {r s : Int} (h : q1 ++ [s] = q ++ [r]) : q1 = q ∧ s = r := by
 have := List.append_inj' h rfl
 exact ⟨this.1, by simpa using this.2⟩
theorem Tri.step {T : TM} {l : List Pat} {ps : List (List Int)} (h : Tri T l ps) {i : Nat} {q : List Int} (hi : ps[i]? = some q) (r : Int) :
  ∃ ps', Tri (TM.step (T, i) r).1 l ps' ∧ ps'[(TM.step (T, i) r).2]? = some (q ++ [r]) ∧ ∀ q', q' ∈ ps' ↔ q' ∈ ps ∨ q' = q ++ [r] := by
 have hil : i < T.n := by rw [← h.len]; exact (List.getElem?_eq_some_iff.1 hi).1
 unfold TM.step
 cases hn : T.next i r with
 | some m =>
  have hm := (h.next i q hi r m).1 hn
  refine ⟨ps, h, hm, fun q' => ⟨.inl, ?_⟩⟩
  rintro (h1 | rfl)
  ·exact h1
  ·exact idx_mem hm
 | none =>
  have hnew : q ++ [r] ∉ ps := by
   intro hm
   obtain ⟨m, hm⟩ := mem_idx hm
   rw [(h.next i q hi r m).2 hm] at hn
   cases hn
  have hget : ∀ m q', (ps ++ [q ++ [r]])[m]? = some q' ↔ (ps[m]? = some q' ∨ (m = T.n ∧ q' = q ++ [r])) := by
   intro m q'
   rw [List.getElem?_append]
   rw [h.len]
   split
   ·rename_i hm
    constructor
    ·exact .inl
    ·rintro (h1 | ⟨h1, _⟩)
     ·exact h1
     ·omega
   ·rename_i hm
    constructor
    ·intro h1
     rcases Nat.lt_or_ge (m - T.n) 1 with h2 | h2
     ·have h3 : m - T.n = 0 := by omega
      rw [h3] at h1
      exact .inr ⟨by omega, by simpa using h1.symm⟩
     ·rw [List.getElem?_eq_none (by simpa using h2)] at h1
      cases h1
    ·rintro (h1 | ⟨rfl, rfl⟩)
     ·have := (List.getElem?_eq_some_iff.1 h1).1
      rw [h.len] at this
      omega
     ·simp
  refine ⟨ps ++ [q ++ [r]], ⟨h.ok.add hil r, by simp [TM.add, h.len], ?_, ?_, ?_, ?_, ?_, fun p hp => List.mem_append_left _ (h.cover p hp)⟩, (hget _ _).2 (.inr ⟨rfl, rfl⟩), ?_⟩
  ·rw [List.nodup_append]
   refine ⟨h.nodup, by simp, ?_⟩
   intro a ha b hb
   rw [List.mem_singleton] at hb
   rintro rfl
   exact hnew (hb ▸ ha)
  ·rw [List.getElem?_append_left (by rw [h.len]; exact h.ok.pos)]
   exact h.root
  ·intro q1 s hm
   rcases List.mem_append.1 hm with hm | hm
   ·exact List.mem_append_left _ (h.closed q1 s hm)
   ·rw [List.mem_singleton] at hm
    rw [(snoc_inj hm).1]
    exact List.mem_append_left _ (idx_mem hi)
  ·intro i1 q1 hi1 s m
   rw [hget]
   rcases (hget _ _).1 hi1 with h1 | ⟨rfl, rfl⟩
   ·have h2 := h.next i1 q1 h1 s m
    simp only [TM.add]
    by_cases e : i1 = i ∧ s = r
    ·obtain ⟨rfl, rfl⟩ := e
     rw [hi] at h1
     injection h1 with h1
     subst h1
     rw [if_pos ⟨rfl, rfl⟩]
     constructor
     ·intro h3
      injection h3 with h3
      exact .inr ⟨h3.symm, rfl⟩
     ·rintro (h3 | ⟨rfl, _⟩)
      ·exact absurd (idx_mem h3) hnew
      ·rfl
    ·rw [if_neg e, h2]
     constructor
     ·exact .inl
     ·rintro (h3 | ⟨_, h3⟩)
      ·exact h3
      ·obtain ⟨rfl, rfl⟩ := snoc_inj h3
       exact absurd ⟨nodup_idx h.nodup h1 hi, rfl⟩ e
   ·have hno : (T.add i r).next T.n s = none := (h.ok.add hil r).none T.n s |> fun f => by
     simp only [TM.add]
     rw [if_neg (by omega)]
     exact h.ok.none _ _ (Nat.le_refl _)
    rw [hno]
    constructor
    ·intro h3; cases h3
    ·rintro (h3 | ⟨_, h3⟩)
     ·exact absurd (h.closed _ _ (idx_mem h3)) hnew
     ·have := congrArg List.length h3
      simp at this
  ·intro i1 q1 hi1
   rcases (hget _ _).1 hi1 with h1 | ⟨rfl, rfl⟩
   ·exact h.vals i1 q1 h1
   ·intro k
    have hv : (T.add i r).vals T.n = [] := h.ok.far _ (Nat.le_refl _)
    rw [hv]
    refine ⟨by simp, fun p hp e => absurd (e ▸ h.cover p hp) hnew, .inl (by simp)⟩
  ·intro q'
   rw [List.mem_append, List.mem_singleton]
theorem Tri.walkFrom {l : List Pat} (ls : List Int) : ∀ {T : TM} {ps : List (List Int)} {i : Nat} {q : List Int}, Tri T l ps → ps[i]? = some q →
  ∃ ps', Tri (ls.foldl TM.step (T, i)).1 l ps' ∧ ps'[(ls.foldl TM.step (T, i)).2]? = some (q ++ ls) ∧ ∀ q', q' ∈ ps' ↔ q' ∈ ps ∨ ∃ a, a <+: ls ∧ q' = q ++ a := by
 induction ls with
 | nil =>
  intro T ps i q h hi
  refine ⟨ps, h, by simpa using hi, fun q' => ⟨.inl, ?_⟩⟩
  rintro (h1 | ⟨a, ha, rfl⟩)
  ·exact h1
  ·have : a = [] := by simpa using ha
   subst this
   simpa using idx_mem hi
 | cons r ls ih =>
  intro T ps i q h hi
  obtain ⟨ps1, h1, hi1, hm1⟩ := h.step hi r
  obtain ⟨ps2, h2, hi2, hm2⟩ := ih (T := (TM.step (T, i) r).1) (i := (TM.step (T, i) r).2) h1 hi1
  refine ⟨ps2, h2, by rw [List.foldl_cons]; simpa using hi2, fun q' => ?_⟩
  rw [hm2, hm1]
  constructor
  ·rintro ((h3 | rfl) | ⟨a, ha, rfl⟩)
   ·exact .inl h3
   ·exact .inr ⟨[r], ⟨ls, rfl⟩, rfl⟩
   ·exact .inr ⟨r :: a, List.cons_prefix_cons.2 ⟨rfl, ha⟩, by simp⟩
  ·rintro (h3 | ⟨a, ha, rfl⟩)
   ·exact .inl (.inl h3)
   ·cases a with
    | nil => exact .inl (.inl (by simpa using idx_mem hi))
    | cons x a =>
     obtain ⟨rfl, ha2⟩ := List.cons_prefix_cons.1 ha
     exact .inr ⟨a, ha2, by simp⟩
theorem Tri.setVals {T : TM} {l : List Pat} {ps : List (List Int)} (h : Tri T l ps) {i : Nat} {q : List Int} (hi : ps[i]? = some q) {vs : List Int} (hv : NN vs) :
  Tri (T.setVals i (mergeTo (T.vals i) vs vs.length)) (l ++ [(q, vs)]) ps := by
 have hil : i < T.n := by rw [← h.len]; exact (List.getElem?_eq_some_iff.1 hi).1
 refine ⟨h.ok.setVals hil _, h.len, h.nodup, h.root, h.closed, h.next, fun j q1 hj => ?_, fun p hp => ?_⟩
 ·have hvj := h.vals j q1 hj
  intro k
  simp only [TM.setVals]
  by_cases e : j = i
  ·subst e
   rw [hi] at hj
   injection hj with hj
   subst hj
   rw [if_pos rfl, getD_merge _ _ (fun k => (hvj k).1)]
   obtain ⟨h1, h2, h3⟩ := hvj k
   have hk := hv k
   refine ⟨by omega, fun p hp e => ?_, ?_⟩
   ·rcases List.mem_append.1 hp with hp | hp
    ·have := h2 p hp e; omega
    ·rw [List.mem_singleton] at hp; subst hp; exact Int.le_max_right _ _
   ·rcases Int.le_total (vs.getD k 0) ((T.vals j).getD k 0) with hle | hle
    ·rw [Int.max_eq_left hle]
     rcases h3 with h3 | ⟨p, hp, e, e2⟩
     ·exact .inl h3
     ·exact .inr ⟨p, List.mem_append_left _ hp, e, e2⟩
    ·rw [Int.max_eq_right hle]
     exact .inr ⟨(q, vs), List.mem_append_right _ (List.mem_singleton.2 rfl), rfl, rfl⟩
  ·rw [if_neg e]
   obtain ⟨h1, h2, h3⟩ := hvj k
   refine ⟨h1, fun p hp e1 => ?_, ?_⟩
   ·rcases List.mem_append.1 hp with hp | hp
    ·exact h2 p hp e1
    ·rw [List.mem_singleton] at hp
     subst hp
     simp only at e1
     subst e1
     exact absurd (nodup_idx h.nodup hj hi) e
   ·rcases h3 with h3 | ⟨p, hp, e, e2⟩
    ·exact .inl h3
    ·exact .inr ⟨p, List.mem_append_left _ hp, e, e2⟩
 ·rcases List.mem_append.1 hp with hp | hp
  ·exact h.cover p hp
  ·rw [List.mem_singleton] at hp
   subst hp
   exact idx_mem hi
theorem Tri.insert {T : TM} {l : List Pat} {ps : List (List Int)} (h : Tri T l ps) {p : Pat} (hv : NN p.2) :
  ∃ ps', Tri (T.insert p) (l ++ [p]) ps' ∧ ∀ q, q ∈ ps' ↔ q ∈ ps ∨ q <+: p.1 := by
 obtain ⟨ps1, h1, hi1, hm1⟩ := Tri.walkFrom p.1 h h.root
 refine ⟨ps1, ?_, fun q => ?_⟩
 ·have := h1.setVals hi1 hv
  simpa [TM.insert, TM.walk] using this
 ·rw [hm1]
  constructor
  ·rintro (h2 | ⟨a, ha, rfl⟩)
   ·exact .inl h2
   ·exact .inr (by simpa using ha)
  ·rintro (h2 | h2)
   ·exact .inl h2
   ·exact .inr ⟨q, h2, by simp⟩
theorem Tri.makeFrom (l : List Pat) : ∀ {T : TM} {l0 : List Pat} {ps : List (List Int)}, Tri T l0 ps → (∀ p ∈ l, NN p.2) →
  ∃ ps', Tri (l.foldl TM.insert T) (l0 ++ l) ps' ∧ ∀ q, q ∈ ps' ↔ q ∈ ps ∨ ∃ p ∈ l, q <+: p.1 := by
 induction l with
 | nil => intro T l0 ps h _; exact ⟨ps, by simpa using h, fun q => by simp⟩
 | cons p l ih =>
  intro T l0 ps h hv
  obtain ⟨ps1, h1, hm1⟩ := h.insert (hv p (List.mem_cons_self ..))
  obtain ⟨ps2, h2, hm2⟩ := ih h1 (fun p' hp' => hv p' (List.mem_cons_of_mem _ hp'))
  refine ⟨ps2, by simpa using h2, fun q => ?_⟩
  rw [hm2, hm1]
  constructor
  ·rintro ((h3 | h3) | ⟨p', hp', h3⟩)
   ·exact .inl h3
   ·exact .inr ⟨p, List.mem_cons_self .., h3⟩
   ·exact .inr ⟨p', List.mem_cons_of_mem _ hp', h3⟩
  ·rintro (h3 | ⟨p', hp', h3⟩)
   ·exact .inl (.inl h3)
   ·rcases List.mem_cons.1 hp' with rfl | hp'
    ·exact .inl (.inr h3)
    ·exact .inr ⟨p', hp', h3⟩
theorem make_tri (l : List Pat) (hv : ∀ p ∈ l, NN p.2) : ∃ ps, Tri (make l) l ps ∧ ∀ q, q ∈ ps ↔ q = [] ∨ ∃ p ∈ l, q <+: p.1 := by
 obtain ⟨ps, h, hm⟩ := Tri.makeFrom l Tri.init hv
 exact ⟨ps, by rw [List.nil_append] at h; exact h, fun q => by rw [hm]; simp⟩
theorem getD_bumpTo (out vs : List Int) (s k j : Nat) : (bumpTo out vs s k).getD j 0 = if s ≤ j + 1 ∧ j + 1 - s < k ∧ j < out.length then max (out.getD j 0) (vs.getD (j + 1 - s) 0) else out.getD j 0 := by
 induction k with
 | zero => rw [if_neg (by omega), bumpTo_zero]
 | succ k ih =>
  rw [bumpTo_succ]
  unfold bumpAt
  rw [bumpTo_length]
  by_cases h : 1 ≤ s + k ∧ s + k - 1 < out.length
  ·rw [if_pos h, getD_set _ _ _ _ (by rw [bumpTo_length]; exact h.2)]
   by_cases e : j = s + k - 1
   ·subst e
    have e2 : s + k - 1 + 1 - s = k := by omega
    rw [if_pos rfl, if_pos (by omega), e2, ih, if_neg (by omega)]
   ·rw [if_neg e, ih]
    by_cases h1 : s ≤ j + 1 ∧ j + 1 - s < k ∧ j < out.length
    ·rw [if_pos h1, if_pos (by omega)]
    ·rw [if_neg h1, if_neg (by omega)]
  ·rw [if_neg h, ih]
   by_cases h1 : s ≤ j + 1 ∧ j + 1 - s < k ∧ j < out.length
   ·rw [if_pos h1, if_pos (by omega)]
   ·rw [if_neg h1, if_neg (by omega)]
theorem getD_bump (out vs : List Int) (s j : Nat) (ho : 0 ≤ out.getD j 0) (hj : j < out.length) : (bump out vs s).getD j 0 = if s ≤ j + 1 then max (out.getD j 0) (vs.getD (j + 1 - s) 0) else out.getD j 0 := by
 unfold bump
 rw [getD_bumpTo]
 by_cases h : s ≤ j + 1
 ·rw [if_pos h]
  by_cases h1 : j + 1 - s < vs.length
  ·rw [if_pos ⟨h, h1, hj⟩]
  ·rw [if_neg (by omega)]
   have : vs.getD (j + 1 - s) 0 = 0 := by rw [List.getD_eq_getElem?_getD, List.getElem?_eq_none (by omega)]; rfl
   rw [this]
   omega
 ·rw [if_neg h, if_neg (by omega)]
theorem run_spec {T : TM} {l : List Pat} {ps : List (List Int)} (h : Tri T l ps) (s : Nat) (w : List Int) (rest : List Int) : ∀ (out : List Int) (i : Nat) (q : List Int), ps[i]? = some q → w = q ++ rest → ∀ j, j < out.length → 0 ≤ out.getD j 0 →
  out.getD j 0 ≤ (T.run s out rest i).getD j 0 ∧ (s ≤ j + 1 → ∀ p ∈ l, q <+: p.1 → p.1 <+: w → p.2.getD (j + 1 - s) 0 ≤ (T.run s out rest i).getD j 0) ∧
   ((T.run s out rest i).getD j 0 = out.getD j 0 ∨ (s ≤ j + 1 ∧ ∃ p ∈ l, p.1 <+: w ∧ p.2.getD (j + 1 - s) 0 = (T.run s out rest i).getD j 0)) := by
 have base : ∀ (out : List Int) (i : Nat) (q : List Int), ps[i]? = some q → q <+: w → ∀ j, j < out.length → 0 ≤ out.getD j 0 →
   out.getD j 0 ≤ (bump out (T.vals i) s).getD j 0 ∧ (s ≤ j + 1 → ∀ p ∈ l, p.1 = q → p.2.getD (j + 1 - s) 0 ≤ (bump out (T.vals i) s).getD j 0) ∧
   ((bump out (T.vals i) s).getD j 0 = out.getD j 0 ∨ (s ≤ j + 1 ∧ ∃ p ∈ l, p.1 <+: w ∧ p.2.getD (j + 1 - s) 0 = (bump out (T.vals i) s).getD j 0)) := by
  intro out i q hi hq j hj ho
  rw [getD_bump _ _ _ _ ho hj]
  by_cases hs : s ≤ j + 1
  ·rw [if_pos hs]
   obtain ⟨h1, h2, h3⟩ := h.vals i q hi (j + 1 - s)
   refine ⟨Int.le_max_left _ _, fun _ p hp e => by have := h2 p hp e; omega, ?_⟩
   rcases Int.le_total ((T.vals i).getD (j + 1 - s) 0) (out.getD j 0) with hle | hle
   ·exact .inl (Int.max_eq_left hle)
   ·rw [Int.max_eq_right hle]
    rcases h3 with h3 | ⟨p, hp, e, e2⟩
    ·exact .inl (by omega)
    ·exact .inr ⟨hs, p, hp, e ▸ hq, e2⟩
  ·rw [if_neg hs]
   exact ⟨Int.le_refl _, fun h => absurd h hs, .inl rfl⟩
 induction rest with
 | nil =>
  intro out i q hi hw j hj ho
  have hwq : w = q := by simpa using hw
  obtain ⟨h1, h2, h3⟩ := base out i q hi ⟨[], by rw [hw]⟩ j hj ho
  refine ⟨h1, fun hs p hp hq hpw => h2 hs p hp ?_, h3⟩
  exact (List.IsPrefix.eq_of_length_le (hwq ▸ hpw) hq.length_le)
 | cons r rest ih =>
  intro out i q hi hw j hj ho
  have hqw : q <+: w := ⟨r :: rest, hw.symm⟩
  obtain ⟨h1, h2, h3⟩ := base out i q hi hqw j hj ho
  have hcase : ∀ p ∈ l, q <+: p.1 → p.1 <+: w → p.1 = q ∨ q ++ [r] <+: p.1 := by
   intro p hp hq hpw
   obtain ⟨a, ha⟩ := hq
   cases a with
   | nil => exact .inl (by simpa using ha.symm)
   | cons x a =>
    obtain ⟨b, hb⟩ := hpw
    rw [← ha, hw, List.append_assoc] at hb
    have hb := List.append_cancel_left hb
    simp only [List.cons_append, List.cons.injEq] at hb
    exact .inr ⟨a, by rw [← ha, hb.1]; simp⟩
  unfold TM.run
  cases hn : T.next i r with
  | none =>
   refine ⟨h1, fun hs p hp hq hpw => ?_, h3⟩
   rcases hcase p hp hq hpw with e | e
   ·exact h2 hs p hp e
   ·exfalso
    have key : ∀ (a : List Int) (b : List Int), b ++ a ∈ ps → b ∈ ps := by
     intro a
     induction a with
     | nil => intro b hb; simpa using hb
     | cons x a ih => intro b hb; exact h.closed b x (ih (b ++ [x]) (by simpa using hb))
    obtain ⟨a, ha⟩ := e
    have hm := key a (q ++ [r]) (ha ▸ h.cover p hp)
    obtain ⟨m, hm⟩ := mem_idx hm
    rw [(h.next i q hi r m).2 hm] at hn
    cases hn
  | some m =>
   have hm := (h.next i q hi r m).1 hn
   have hb0 : 0 ≤ (bump out (T.vals i) s).getD j 0 := by omega
   obtain ⟨k1, k2, k3⟩ := ih (bump out (T.vals i) s) m (q ++ [r]) hm (by simpa using hw) j (by rw [bump_length]; exact hj) hb0
   refine ⟨by simp only; omega, fun hs p hp hq hpw => ?_, ?_⟩
   ·rcases hcase p hp hq hpw with e | e
    ·have := h2 hs p hp e
     simp only
     omega
    ·exact k2 hs p hp e hpw
   ·rcases k3 with k3 | k3
    ·rcases h3 with h3 | ⟨hs, p, hp, e, e2⟩
     ·exact .inl (k3.trans h3)
     ·exact .inr ⟨hs, p, hp, e, e2.trans k3.symm⟩
    ·exact .inr k3
def Best (l : List Pat) (whole V : List Int) : Prop :=
 ∀ j, j < V.length → 0 ≤ V.getD j 0 ∧ (∀ s p, p ∈ l → p.1 <+: whole.drop s → s ≤ j + 1 → p.2.getD (j + 1 - s) 0 ≤ V.getD j 0) ∧
  (V.getD j 0 = 0 ∨ ∃ s p, p ∈ l ∧ p.1 <+: whole.drop s ∧ s ≤ j + 1 ∧ p.2.getD (j + 1 - s) 0 = V.getD j 0)
theorem valuesTo_spec {T : TM} {l : List Pat} {ps : List (List Int)} (h : Tri T l ps) (whole out : List Int) (ho : NN out) (hz : ∀ j, out.getD j 0 = 0) (n : Nat) : ∀ j, j < out.length → 0 ≤ (valuesTo T whole out n).getD j 0 ∧
  (∀ s p, s < n → p ∈ l → p.1 <+: whole.drop s → s ≤ j + 1 → p.2.getD (j + 1 - s) 0 ≤ (valuesTo T whole out n).getD j 0) ∧
  ((valuesTo T whole out n).getD j 0 = 0 ∨ ∃ s p, p ∈ l ∧ p.1 <+: whole.drop s ∧ s ≤ j + 1 ∧ p.2.getD (j + 1 - s) 0 = (valuesTo T whole out n).getD j 0) := by
 induction n with
 | zero => intro j hj; rw [valuesTo_zero]; exact ⟨ho j, fun s p hs => by omega, .inl (hz j)⟩
 | succ n ih =>
  intro j hj
  obtain ⟨h1, h2, h3⟩ := ih j hj
  rw [valuesTo_succ]
  obtain ⟨k1, k2, k3⟩ := run_spec h n (whole.drop n) (whole.drop n) (valuesTo T whole out n) 0 [] h.root rfl j (by rw [valuesTo_length]; exact hj) h1
  refine ⟨by omega, fun s p hs hp hpw hsj => ?_, ?_⟩
  ·rcases Nat.lt_or_ge s n with hlt | hge
   ·have := h2 s p hlt hp hpw hsj
    omega
   ·have : s = n := by omega
    subst this
    exact k2 hsj p hp (List.nil_prefix ..) hpw
  ·rcases k3 with k3 | ⟨hs, p, hp, e, e2⟩
   ·rw [k3]; exact h3
   ·exact .inr ⟨n, p, hp, e, hs, e2⟩
theorem zeros_getD (n j : Nat) : (List.replicate n (0 : Int)).getD j 0 = 0 := by
 rw [List.getD_eq_getElem?_getD, List.getElem?_replicate]
 split <;> rfl
theorem values_best (l : List Pat) (hv : ∀ p ∈ l, NN p.2) (word : List Int) : Best l (46 :: word ++ [46]) (values (make l) word) := by
 obtain ⟨ps, h, _⟩ := make_tri l hv
 intro j hj
 rw [values_length] at hj
 obtain ⟨h1, h2, h3⟩ := valuesTo_spec h (46 :: word ++ [46]) (List.replicate (word.length + 1) 0) (fun k => by rw [zeros_getD]; exact Int.le_refl _) (fun k => zeros_getD _ _) (word.length + 2) j (by simpa using hj)
 exact ⟨h1, fun s p hp hpw hs => h2 s p (by omega) hp hpw hs, h3⟩
theorem Best.le {l l' : List Pat} {whole V V' : List Int} (h : Best l whole V) (h' : Best l' whole V') (hs : ∀ p ∈ l, p ∈ l') (hl : V.length = V'.length) (j : Nat) : V.getD j 0 ≤ V'.getD j 0 := by
 rcases Nat.lt_or_ge j V.length with hj | hj
 ·obtain ⟨h1, h2, h3⟩ := h j hj
  obtain ⟨k1, k2, k3⟩ := h' j (hl ▸ hj)
  rcases h3 with h3 | ⟨s, p, hp, e, hsj, e2⟩
  ·omega
  ·have := k2 s p (hs p hp) e hsj
   omega
 ·rw [List.getD_eq_getElem?_getD, List.getD_eq_getElem?_getD, List.getElem?_eq_none hj, List.getElem?_eq_none (by omega)]
  exact Int.le_refl _
theorem ext_getD {xs ys : List Int} (hl : xs.length = ys.length) (h : ∀ j, xs.getD j 0 = ys.getD j 0) : xs = ys := by
 apply List.ext_getElem hl
 intro i h1 h2
 have := h i
 rwa [List.getD_eq_getElem?_getD, List.getD_eq_getElem?_getD, List.getElem?_eq_getElem h1, List.getElem?_eq_getElem h2] at this
theorem Best.unique {l l' : List Pat} {whole V V' : List Int} (h : Best l whole V) (h' : Best l' whole V') (hs : ∀ p, p ∈ l ↔ p ∈ l') (hl : V.length = V'.length) : V = V' :=
 ext_getD hl fun j => Int.le_antisymm (h.le h' (fun p hp => (hs p).1 hp) hl j) (h'.le h (fun p hp => (hs p).2 hp) hl.symm j)
end Go.Proofs.Ytoefjhdcipgacaa.Tr
end
