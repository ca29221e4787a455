/-
  Part 1 of what the law HyphChecks rests on: contracts of the functions that it calls, and plain laws of what they compute.
-/
section
namespace Go.Proofs.Ytoefjhdcipgacaa.Tr
structure TM where
  n : Nat
  next : Nat → Int → Option Nat
  vals : Nat → List Int
def TM.init : TM := ⟨1, fun _ _ => none, fun _ => []⟩
def TM.add (T : TM) (i : Nat) (r : Int) : TM := ⟨T.n + 1, fun j s => if j = i ∧ s = r then some T.n else T.next j s, T.vals⟩
def TM.step (s : TM × Nat) (r : Int) : TM × Nat :=
  match s.1.next s.2 r with
  | some m => (s.1, m)
  | none => (s.1.add s.2 r, s.1.n)
def TM.setVals (T : TM) (i : Nat) (xs : List Int) : TM := ⟨T.n, T.next, fun j => if j = i then xs else T.vals j⟩
def room (xs : List Int) (i : Nat) : List Int := if xs.length ≤ i then xs ++ [0] else xs
def mergeAt (xs : List Int) (i : Nat) (v : Int) : List Int := (room xs i).set i (max ((room xs i).getD i 0) v)
def mergeTo (xs vs : List Int) (k : Nat) : List Int := (List.range k).foldl (fun ys i => mergeAt ys i (vs.getD i 0)) xs
def TM.walk (T : TM) (ls : List Int) : TM × Nat := ls.foldl TM.step (T, 0)
def TM.insert (T : TM) (p : List Int × List Int) : TM := (T.walk p.1).1.setVals (T.walk p.1).2 (mergeTo ((T.walk p.1).1.vals (T.walk p.1).2) p.2 p.2.length)
def make (l : List (List Int × List Int)) : TM := l.foldl TM.insert TM.init
structure TM.Ok (T : TM) : Prop where
  pos : 0 < T.n
  far : ∀ i, T.n ≤ i → T.vals i = []
  none : ∀ i r, T.n ≤ i → T.next i r = none
  lt : ∀ i r m, T.next i r = some m → m < T.n
theorem TM.Ok.init : TM.init.Ok := ⟨by decide, fun _ _ => rfl, fun _ _ _ => rfl, fun _ _ _ h => by simp [TM.init] at h⟩
theorem TM.Ok.add {T : TM} (h : T.Ok) {i : Nat} (hi : i < T.n) (r : Int) : (T.add i r).Ok := by
  refine ⟨Nat.succ_pos _, fun j hj => h.far j (by simp only [TM.add] at hj; omega), fun j s hj => ?_, fun j s m hm => ?_⟩
  · simp only [TM.add] at hj ⊢
    rw [if_neg (by omega)]
    exact h.none j s (by omega)
  · simp only [TM.add] at hm ⊢
    split at hm
    · injection hm with hm; omega
    · have := h.lt j s m hm; omega
theorem TM.Ok.setVals {T : TM} (h : T.Ok) {i : Nat} (hi : i < T.n) (xs : List Int) : (T.setVals i xs).Ok := by
  refine ⟨h.pos, fun j hj => ?_, h.none, h.lt⟩
  simp only [TM.setVals] at hj ⊢
  rw [if_neg (by omega)]
  exact h.far j hj
theorem TM.Ok.step {s : TM × Nat} (h : s.1.Ok) (hs : s.2 < s.1.n) (r : Int) : (TM.step s r).1.Ok ∧ (TM.step s r).2 < (TM.step s r).1.n ∧ s.1.n ≤ (TM.step s r).1.n ∧ (TM.step s r).1.n ≤ s.1.n + 1 := by
  unfold TM.step
  cases hm : s.1.next s.2 r with
  | some m => exact ⟨h, h.lt _ _ _ hm, Nat.le_refl _, Nat.le_succ _⟩
  | none => exact ⟨h.add hs r, Nat.lt_succ_self _, Nat.le_succ _, Nat.le_refl _⟩
theorem TM.Ok.walkTo {s : TM × Nat} (h : s.1.Ok) (hs : s.2 < s.1.n) (ls : List Int) : (ls.foldl TM.step s).1.Ok ∧ (ls.foldl TM.step s).2 < (ls.foldl TM.step s).1.n ∧ s.1.n ≤ (ls.foldl TM.step s).1.n ∧ (ls.foldl TM.step s).1.n ≤ s.1.n + ls.length := by
  induction ls generalizing s with
  | nil => exact ⟨h, hs, Nat.le_refl _, Nat.le_refl _⟩
  | cons r ls ih =>
    obtain ⟨h1, h2, h3, h4⟩ := h.step hs r
    obtain ⟨k1, k2, k3, k4⟩ := ih h1 h2
    simp only [List.foldl_cons, List.length_cons]
    exact ⟨k1, k2, by omega, by omega⟩
theorem TM.Ok.insert {T : TM} (h : T.Ok) (p : List Int × List Int) : (T.insert p).Ok ∧ (T.insert p).n ≤ T.n + p.1.length := by
  obtain ⟨h1, h2, _, h4⟩ := TM.Ok.walkTo (s := (T, 0)) h h.pos p.1
  exact ⟨h1.setVals h2 _, h4⟩
def letters (l : List (List Int × List Int)) : Nat := (l.map fun p => p.1.length).sum
theorem TM.Ok.makeFrom {T : TM} (h : T.Ok) (l : List (List Int × List Int)) : (l.foldl TM.insert T).Ok ∧ (l.foldl TM.insert T).n ≤ T.n + letters l := by
  induction l generalizing T with
  | nil => exact ⟨h, by simp [letters]⟩
  | cons p l ih =>
    obtain ⟨h1, h2⟩ := h.insert p
    obtain ⟨k1, k2⟩ := ih h1
    refine ⟨k1, ?_⟩
    simp only [letters, List.map_cons, List.sum_cons, List.foldl_cons] at *
    omega
theorem TM.Ok.make (l : List (List Int × List Int)) : (make l).Ok ∧ (make l).n ≤ 1 + letters l := TM.Ok.init.makeFrom l
theorem room_length (xs : List Int) (i : Nat) (h : i ≤ xs.length) : (room xs i).length = max xs.length (i + 1) := by
  unfold room; split
  · rw [List.length_append, List.length_singleton]; omega
  · omega
theorem mergeAt_length (xs : List Int) (i : Nat) (v : Int) (h : i ≤ xs.length) : (mergeAt xs i v).length = max xs.length (i + 1) := by
  unfold mergeAt; rw [List.length_set, room_length xs i h]
theorem mergeTo_zero (xs vs : List Int) : mergeTo xs vs 0 = xs := rfl
theorem mergeTo_succ (xs vs : List Int) (k : Nat) : mergeTo xs vs (k + 1) = mergeAt (mergeTo xs vs k) k (vs.getD k 0) := by
  unfold mergeTo; rw [List.range_succ, List.foldl_append]; rfl
theorem mergeTo_length (xs vs : List Int) (k : Nat) : (mergeTo xs vs k).length = max xs.length k := by
  induction k with
  | zero => simp [mergeTo_zero]
  | succ k ih => rw [mergeTo_succ, mergeAt_length _ _ _ (by rw [ih]; omega), ih]; omega
def bumpAt (out : List Int) (i : Nat) (v : Int) (s : Nat) : List Int := if 1 ≤ s + i ∧ s + i - 1 < out.length then out.set (s + i - 1) (max (out.getD (s + i - 1) 0) v) else out
def bumpTo (out vs : List Int) (s k : Nat) : List Int := (List.range k).foldl (fun ys i => bumpAt ys i (vs.getD i 0) s) out
def bump (out vs : List Int) (s : Nat) : List Int := bumpTo out vs s vs.length
def TM.run (T : TM) (s : Nat) : List Int → List Int → Nat → List Int
  | out, [], i => bump out (T.vals i) s
  | out, r :: rest, i =>
    match T.next i r with
    | none => bump out (T.vals i) s
    | some m => T.run s (bump out (T.vals i) s) rest m
def valuesTo (T : TM) (whole : List Int) (out : List Int) (k : Nat) : List Int := (List.range k).foldl (fun ys s => T.run s ys (whole.drop s) 0) out
def values (T : TM) (word : List Int) : List Int := valuesTo T (46 :: word ++ [46]) (List.replicate (word.length + 1) 0) (word.length + 2)
theorem bumpAt_length (out : List Int) (i : Nat) (v : Int) (s : Nat) : (bumpAt out i v s).length = out.length := by unfold bumpAt; split <;> simp
theorem bumpTo_succ (out vs : List Int) (s k : Nat) : bumpTo out vs s (k + 1) = bumpAt (bumpTo out vs s k) k (vs.getD k 0) s := by
  unfold bumpTo; rw [List.range_succ, List.foldl_append]; rfl
theorem bumpTo_length (out vs : List Int) (s k : Nat) : (bumpTo out vs s k).length = out.length := by
  induction k with
  | zero => rfl
  | succ k ih => rw [bumpTo_succ, bumpAt_length, ih]
theorem bump_length (out vs : List Int) (s : Nat) : (bump out vs s).length = out.length := bumpTo_length _ _ _ _
theorem TM.run_length (T : TM) (s : Nat) (rest : List Int) : ∀ (out : List Int) (i : Nat), (T.run s out rest i).length = out.length := by
  induction rest with
  | nil => intro out i; exact bump_length _ _ _
  | cons r rest ih =>
    intro out i
    unfold TM.run
    split
    · exact bump_length _ _ _
    · rw [ih, bump_length]
theorem valuesTo_succ (T : TM) (whole out : List Int) (k : Nat) : valuesTo T whole out (k + 1) = T.run k (valuesTo T whole out k) (whole.drop k) 0 := by
  unfold valuesTo; rw [List.range_succ, List.foldl_append]; rfl
theorem valuesTo_length (T : TM) (whole out : List Int) (k : Nat) : (valuesTo T whole out k).length = out.length := by
  induction k with
  | zero => rfl
  | succ k ih => rw [valuesTo_succ, TM.run_length, ih]
theorem values_length (T : TM) (word : List Int) : (values T word).length = word.length + 1 := by unfold values; rw [valuesTo_length]; simp
end Go.Proofs.Ytoefjhdcipgacaa.Tr
end
