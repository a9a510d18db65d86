/-
  Plain facts about pressed lengths (no program): runs, items.
-/
import Derived.Test.YtempgkglhgelkaaB
namespace Go.Proofs.Ytempgkglhgelkaa

def runLen (xs : List Int) (i : Nat) : Nat := ((xs.drop i).takeWhile fun x => x == rd xs i).length

theorem takeWhile_of {xs : List Int} {p : Int → Bool} (n : Nat) (hn : n ≤ xs.length) (h : ∀ j, j < n → p (rd xs j) = true) (he : n = xs.length ∨ p (rd xs n) = false) : (xs.takeWhile p).length = n := by
  induction xs generalizing n with
  | nil => simp at hn; subst hn; rfl
  | cons x xs ih =>
    cases n with
    | zero =>
      rcases he with he | he
      · simp at he
      · have : p x = false := by simpa [rd] using he
        simp [List.takeWhile, this]
    | succ n =>
      have hx : p x = true := by simpa [rd] using h 0 (by omega)
      simp only [List.takeWhile, hx, List.length_cons]
      rw [ih n (by simpa using hn) (fun j hj => by simpa [rd] using h (j + 1) (by omega)) ?_]
      rcases he with he | he
      · left; simpa using he
      · right; simpa [rd] using he
theorem rd_drop (xs : List Int) (i j : Nat) : rd (xs.drop i) j = rd xs (i + j) := by simp [rd, List.getD_eq_getElem?_getD, List.getElem?_drop]
theorem runLen_of {xs : List Int} {i : Nat} (n : Nat) (hn : i + n ≤ xs.length) (h : ∀ j, j < n → rd xs (i + j) = rd xs i) (he : i + n = xs.length ∨ rd xs (i + n) ≠ rd xs i) : runLen xs i = n := by
  unfold runLen
  refine takeWhile_of n (by simp; omega) (fun j hj => by rw [rd_drop]; simpa using h j hj) ?_
  rcases he with he | he
  · left; simp; omega
  · right; rw [rd_drop]; simpa using he
theorem runLen_pos {xs : List Int} {i : Nat} (h : i < xs.length) : 0 < runLen xs i ∧ i + runLen xs i ≤ xs.length := by
  have h1 : xs.drop i = xs[i] :: xs.drop (i + 1) := (List.getElem_cons_drop h).symm
  constructor
  · unfold runLen; rw [h1, ← rd_getElem h]; simp [List.takeWhile]
  · unfold runLen
    have := (List.takeWhile_sublist (fun x => x == rd xs i) (l := xs.drop i)).length_le
    simp at this
    omega
/-- The item at place i: what it is, its bits, what follows; and how many lengths it tells. -/
structure Item where
  s : Int
  bits : Int
  extra : Int
def itemAt (xs : List Int) (i : Nat) : Item × Nat :=
  if rd xs i = 0 ∧ 11 ≤ runLen xs i then (⟨18, 7, (min (runLen xs i) 138 : Nat) - 11⟩, min (runLen xs i) 138)
  else if rd xs i = 0 ∧ 3 ≤ runLen xs i then (⟨17, 3, (runLen xs i : Nat) - 3⟩, runLen xs i)
  else if rd xs i ≠ 0 ∧ 0 < i ∧ rd xs (i - 1) = rd xs i ∧ 3 ≤ runLen xs i then (⟨16, 2, (min (runLen xs i) 6 : Nat) - 3⟩, min (runLen xs i) 6)
  else (⟨rd xs i, 0, 0⟩, 1)
def itemsFrom (xs : List Int) : Nat → Nat → List Item
  | 0, _ => []
  | f + 1, i => if i < xs.length then (itemAt xs i).1 :: itemsFrom xs f (i + (itemAt xs i).2) else []
def items (xs : List Int) : List Item := itemsFrom xs xs.length 0
theorem itemAt_step (xs : List Int) (i : Nat) (h : i < xs.length) : 1 ≤ (itemAt xs i).2 ∧ i + (itemAt xs i).2 ≤ xs.length := by
  have := runLen_pos h
  unfold itemAt
  split
  · simp; omega
  · split
    · simp; omega
    · split
      · simp; omega
      · simp; omega
theorem itemsFrom_more (xs : List Int) (f g i : Nat) (hf : xs.length - i ≤ f) (hg : xs.length - i ≤ g) : itemsFrom xs f i = itemsFrom xs g i := by
  induction f generalizing g i with
  | zero =>
    cases g with
    | zero => rfl
    | succ g => simp only [itemsFrom]; rw [if_neg (by omega)]
  | succ f ih =>
    cases g with
    | zero => simp only [itemsFrom]; rw [if_neg (by omega)]
    | succ g =>
      simp only [itemsFrom]
      split
      · rename_i h
        have := itemAt_step xs i h
        rw [ih g _ (by omega) (by omega)]
      · rfl
theorem itemsFrom_step (xs : List Int) (i : Nat) (h : i < xs.length) : itemsFrom xs xs.length i = (itemAt xs i).1 :: itemsFrom xs xs.length (i + (itemAt xs i).2) := by
  have := itemAt_step xs i h
  rw [itemsFrom_more xs xs.length (xs.length + 1) i (by omega) (by omega)]
  simp only [itemsFrom]
  rw [if_pos h]
theorem itemsFrom_end (xs : List Int) (f i : Nat) (h : xs.length ≤ i) : itemsFrom xs f i = [] := by
  cases f with
  | zero => rfl
  | succ f => simp only [itemsFrom]; rw [if_neg (by omega)]
theorem items_next {xs : List Int} {k : Nat} {pre : List Item} {it : Item} {st : Nat} (hk : k < xs.length) (h : items xs = pre ++ itemsFrom xs xs.length k) (hit : itemAt xs k = (it, st)) : items xs = (pre ++ [it]) ++ itemsFrom xs xs.length (k + st) := by
  rw [h, itemsFrom_step xs k hk, hit, List.append_assoc]
  rfl
theorem itemAt_18 {xs : List Int} {k : Nat} (h1 : rd xs k = 0) (h2 : 11 ≤ runLen xs k) : itemAt xs k = (⟨18, 7, (min (runLen xs k) 138 : Nat) - 11⟩, min (runLen xs k) 138) := by
  unfold itemAt; rw [if_pos ⟨h1, h2⟩]
theorem itemAt_17 {xs : List Int} {k : Nat} (h1 : rd xs k = 0) (h2 : 3 ≤ runLen xs k) (h3 : runLen xs k < 11) : itemAt xs k = (⟨17, 3, (runLen xs k : Nat) - 3⟩, runLen xs k) := by
  unfold itemAt; rw [if_neg (by omega), if_pos ⟨h1, h2⟩]
theorem itemAt_16 {xs : List Int} {k : Nat} (h1 : rd xs k ≠ 0) (h2 : 0 < k) (h3 : rd xs (k - 1) = rd xs k) (h4 : 3 ≤ runLen xs k) : itemAt xs k = (⟨16, 2, (min (runLen xs k) 6 : Nat) - 3⟩, min (runLen xs k) 6) := by
  unfold itemAt; rw [if_neg (fun h => h1 h.1), if_neg (fun h => h1 h.1), if_pos ⟨h1, h2, h3, h4⟩]
theorem itemAt_one {xs : List Int} {k : Nat} (h : (rd xs k = 0 ∧ runLen xs k < 3) ∨ (rd xs k ≠ 0 ∧ (k = 0 ∨ rd xs (k - 1) ≠ rd xs k ∨ runLen xs k < 3))) : itemAt xs k = (⟨rd xs k, 0, 0⟩, 1) := by
  unfold itemAt
  rcases h with ⟨h1, h2⟩ | ⟨h1, h2⟩
  · rw [if_neg (by omega), if_neg (by omega), if_neg (fun h => h.1 h1)]
  · rw [if_neg (fun h => h1 h.1), if_neg (fun h => h1 h.1), if_neg]
    rintro ⟨_, g1, g2, g3⟩
    rcases h2 with h2 | h2 | h2
    · omega
    · exact h2 g2
    · omega
def itemCells (l : List Item) : List Value := l.flatMap fun x => [.int .i64 x.s, .int .i64 x.bits, .int .u64 x.extra]
theorem itemCells_append (a b : List Item) : itemCells (a ++ b) = itemCells a ++ itemCells b := by simp [itemCells]
theorem itemCells_length (l : List Item) : (itemCells l).length = l.length * 3 := by
  induction l with
  | nil => rfl
  | cons x l ih => simp [itemCells] at *; omega
theorem itemsFrom_le (xs : List Int) (f i : Nat) : (itemsFrom xs f i).length ≤ xs.length - i := by
  induction f generalizing i with
  | zero => simp [itemsFrom]
  | succ f ih =>
    simp only [itemsFrom]
    split
    · rename_i h
      have h1 := itemAt_step xs i h
      have h2 := ih (i + (itemAt xs i).2)
      simp
      omega
    · simp
theorem items_le (xs : List Int) : (items xs).length ≤ xs.length := itemsFrom_le xs xs.length 0
/-- Numbers that are all the same are told by few items. -/
theorem itemsFrom_few (xs : List Int) (v : Int) (hv : ∀ j, j < xs.length → rd xs j = v) (f i : Nat) (h0 : v = 0 ∨ 0 < i) : (itemsFrom xs f i).length ≤ 2 + (xs.length - i) / 6 := by
  induction f generalizing i with
  | zero => simp [itemsFrom]
  | succ f ih =>
    simp only [itemsFrom]
    split
    · rename_i h
      have hr : runLen xs i = xs.length - i := runLen_of _ (by omega) (fun j hj => by rw [hv _ (by omega), hv i h]) (.inl (by omega))
      have hi := hv i h
      by_cases hz : v = 0
      · by_cases h1 : 11 ≤ xs.length - i
        · rw [itemAt_18 (by rw [hi, hz]) (by omega), hr]
          have h2 := ih (i + min (xs.length - i) 138) (.inl hz)
          have h3 := itemsFrom_le xs f (i + min (xs.length - i) 138)
          simp
          omega
        · by_cases h2 : 3 ≤ xs.length - i
          · rw [itemAt_17 (by rw [hi, hz]) (by omega) (by omega), hr]
            have h3 := itemsFrom_le xs f (i + (xs.length - i))
            simp
            omega
          · rw [itemAt_one (.inl ⟨by rw [hi, hz], by omega⟩)]
            have h3 := itemsFrom_le xs f (i + 1)
            simp
            omega
      · have hp : 0 < i := by omega
        by_cases h2 : 3 ≤ xs.length - i
        · rw [itemAt_16 (by rw [hi]; exact hz) hp (by rw [hv _ (by omega), hi]) (by omega), hr]
          have h2 := ih (i + min (xs.length - i) 6) (.inr (by omega))
          have h3 := itemsFrom_le xs f (i + min (xs.length - i) 6)
          simp
          omega
        · rw [itemAt_one (.inr ⟨by rw [hi]; exact hz, .inr (.inr (by omega))⟩)]
          have h3 := itemsFrom_le xs f (i + 1)
          simp
          omega
    · simp
theorem items_few (xs : List Int) (v : Int) (hv : ∀ j, j < xs.length → rd xs j = v) : (items xs).length ≤ 4 + xs.length / 6 := by
  rcases Nat.eq_zero_or_pos xs.length with h | h
  · have := items_le xs; omega
  · unfold items
    rw [itemsFrom_step xs 0 h]
    have h1 := itemAt_step xs 0 h
    have h2 := itemsFrom_few xs v hv xs.length (0 + (itemAt xs 0).2) (.inr (by omega))
    simp at *
    omega
theorem itemCells_at (l : List Item) (j : Nat) (h : j < l.length) : (itemCells l)[j * 3]? = some (.int .i64 (l[j]).s) ∧ (itemCells l)[j * 3 + 1]? = some (.int .i64 (l[j]).bits) ∧ (itemCells l)[j * 3 + 2]? = some (.int .u64 (l[j]).extra) := by
  induction l generalizing j with
  | nil => simp at h
  | cons x l ih =>
    cases j with
    | zero => exact ⟨rfl, rfl, rfl⟩
    | succ j =>
      have := ih j (by simpa using h)
      have e0 : (itemCells (x :: l))[(j + 1) * 3]? = (itemCells l)[j * 3]? := by rw [show (j + 1) * 3 = j * 3 + 1 + 1 + 1 from by omega]; rfl
      have e1 : (itemCells (x :: l))[(j + 1) * 3 + 1]? = (itemCells l)[j * 3 + 1]? := by rw [show (j + 1) * 3 + 1 = j * 3 + 1 + 1 + 1 + 1 from by omega]; rfl
      have e2 : (itemCells (x :: l))[(j + 1) * 3 + 2]? = (itemCells l)[j * 3 + 2]? := by rw [show (j + 1) * 3 + 2 = j * 3 + 2 + 1 + 1 + 1 from by omega]; rfl
      rw [e0, e1, e2]
      exact this
def mod16 (l : List Int) : List Int := l.map fun x => x % 16
theorem mod16_length (l : List Int) : (mod16 l).length = l.length := by simp [mod16]
theorem rd_mod16 (l : List Int) (j : Nat) (h : j < l.length) : rd (mod16 l) j = rd l j % 16 := by
  rw [rd_getElem (by rw [mod16_length]; exact h), rd_getElem h]; simp [mod16]
theorem mod16_take (l : List Int) (k : Nat) (h : k < l.length) : mod16 (l.take (k + 1)) = mod16 (l.take k) ++ [rd l k % 16] := by
  rw [List.take_succ_eq_append_getElem h, ← rd_getElem h]; simp [mod16]
end Go.Proofs.Ytempgkglhgelkaa
