/-
  Plain facts: heaps over lists of numbers, as container/heap keeps them (no program).
-/
import Derived.Test.YtempgkglhgelkaaB
namespace Go.Proofs.Ytempgkglhgelkaa

/-- Two places of a list changed one with the other. -/
def swp (l : List Int) (i k : Nat) : List Int := (l.set i (rd l k)).set k (rd l i)
theorem swp_length (l : List Int) (i k : Nat) : (swp l i k).length = l.length := by simp [swp]
theorem rd_swp {l : List Int} {i k : Nat} (hi : i < l.length) (hk : k < l.length) (j : Nat) : rd (swp l i k) j = if k = j then rd l i else if i = j then rd l k else rd l j := by
  unfold swp
  rw [rd_set (by rw [List.length_set]; exact hk), rd_set hi]
theorem swp_perm {l : List Int} {i k : Nat} (hi : i < l.length) (hk : k < l.length) : (swp l i k).Perm l := by
  unfold swp
  rw [rd_getElem hi, rd_getElem hk]
  exact List.set_set_perm hi hk
/-- A strict order, none of whose two are both less. -/
structure Ord (lt : Int → Int → Bool) : Prop where
  tr : ∀ x y z, lt y x = false → lt z y = false → lt z x = false
  asy : ∀ x y, lt x y = true → lt y x = false
def heapOn (lt : Int → Int → Bool) (l : List Int) (i0 n : Nat) : Prop := ∀ k, 0 < k → k < n → i0 ≤ (k - 1) / 2 → lt (rd l k) (rd l ((k - 1) / 2)) = false
def childOf (lt : Int → Int → Bool) (l : List Int) (i n : Nat) : Nat := if 2 * i + 2 < n ∧ lt (rd l (2 * i + 2)) (rd l (2 * i + 1)) = true then 2 * i + 2 else 2 * i + 1
def downM (lt : Int → Int → Bool) : Nat → List Int → Nat → Nat → List Int
  | 0, l, _, _ => l
  | f + 1, l, i, n => if n ≤ 2 * i + 1 then l else if lt (rd l (childOf lt l i n)) (rd l i) = true then downM lt f (swp l i (childOf lt l i n)) (childOf lt l i n) n else l
def upM (lt : Int → Int → Bool) : Nat → List Int → Nat → List Int
  | 0, l, _ => l
  | f + 1, l, j => if (j - 1) / 2 = j then l else if lt (rd l j) (rd l ((j - 1) / 2)) = true then upM lt f (swp l ((j - 1) / 2) j) ((j - 1) / 2) else l
theorem childOf_range (lt : Int → Int → Bool) (l : List Int) (i n : Nat) (h : 2 * i + 1 < n) : i < childOf lt l i n ∧ childOf lt l i n < n ∧ (childOf lt l i n - 1) / 2 = i := by
  unfold childOf
  split <;> omega
theorem downM_keeps (lt : Int → Int → Bool) (f : Nat) : ∀ (l : List Int) (i n : Nat), n ≤ l.length → (downM lt f l i n).Perm l ∧ ∀ k, n ≤ k → rd (downM lt f l i n) k = rd l k := by
  induction f with
  | zero => intro l i n _; exact ⟨List.Perm.refl _, fun _ _ => rfl⟩
  | succ f ih =>
    intro l i n hn
    unfold downM
    split
    · exact ⟨List.Perm.refl _, fun _ _ => rfl⟩
    · rename_i h
      have hc := childOf_range lt l i n (by omega)
      split
      · obtain ⟨h1, h2⟩ := ih (swp l i (childOf lt l i n)) (childOf lt l i n) n (by rw [swp_length]; exact hn)
        refine ⟨h1.trans (swp_perm (by omega) (by omega)), fun k hk => ?_⟩
        rw [h2 k hk, rd_swp (by omega) (by omega), if_neg (by omega), if_neg (by omega)]
      · exact ⟨List.Perm.refl _, fun _ _ => rfl⟩
theorem downM_heap {lt : Int → Int → Bool} (O : Ord lt) (i0 f : Nat) : ∀ (l : List Int) (i n : Nat), n ≤ l.length → i0 ≤ i → n ≤ i + f →
    (∀ k, 0 < k → k < n → i0 ≤ (k - 1) / 2 → (k - 1) / 2 ≠ i → lt (rd l k) (rd l ((k - 1) / 2)) = false) →
    (∀ k, 0 < k → k < n → (k - 1) / 2 = i → i ≠ i0 → lt (rd l k) (rd l ((i - 1) / 2)) = false) → heapOn lt (downM lt f l i n) i0 n := by
  induction f with
  | zero =>
    intro l i n _ h0 hf hA _ k k0 kn ki
    exact hA k k0 kn ki (by omega)
  | succ f ih =>
    intro l i n hn h0 hf hA hB
    unfold downM
    split
    · rename_i h
      intro k k0 kn ki
      exact hA k k0 kn ki (by omega)
    · rename_i h
      obtain ⟨c1, c2, c3⟩ := childOf_range lt l i n (by omega)
      have hsib : ∀ k, 0 < k → k < n → (k - 1) / 2 = i → k ≠ childOf lt l i n → lt (rd l k) (rd l (childOf lt l i n)) = false := by
        intro k k0 kn ki hk
        unfold childOf at hk ⊢
        by_cases hq : 2 * i + 2 < n ∧ lt (rd l (2 * i + 2)) (rd l (2 * i + 1)) = true
        · rw [if_pos hq] at hk ⊢
          rw [show k = 2 * i + 1 from by omega]
          exact O.asy _ _ hq.2
        · rw [if_neg hq] at hk ⊢
          rw [show k = 2 * i + 2 from by omega]
          have : ¬ lt (rd l (2 * i + 2)) (rd l (2 * i + 1)) = true := fun e => hq ⟨by omega, e⟩
          simpa using this
      generalize childOf lt l i n = j at *
      split
      · rename_i hlt
        refine ih _ _ _ (by rw [swp_length]; exact hn) (by omega) (by omega) ?_ ?_
        · intro k k0 kn ki hkj
          rw [rd_swp (by omega) (by omega), rd_swp (by omega) (by omega)]
          by_cases e1 : j = k
          · subst e1
            rw [if_pos rfl, if_neg (by omega), if_pos (by omega)]
            exact O.asy _ _ hlt
          · rw [if_neg e1, if_neg (c := j = (k - 1) / 2) (fun e => hkj e.symm)]
            by_cases e2 : (k - 1) / 2 = i
            · rw [if_neg (by omega), if_pos e2.symm]
              exact hsib k k0 kn e2 (Ne.symm e1)
            · rw [if_neg (c := i = (k - 1) / 2) (Ne.symm e2)]
              by_cases e3 : i = k
              · rw [if_pos e3]
                subst e3
                exact hB j (by omega) c2 c3 (by omega)
              · rw [if_neg e3]
                exact hA k k0 kn ki e2
        · intro k k0 kn hk hj
          rw [c3, rd_swp (by omega) (by omega), rd_swp (by omega) (by omega), if_neg (by omega), if_neg (by omega), if_neg (by omega), if_pos rfl]
          have := hA k k0 kn (by omega) (by omega)
          rwa [hk] at this
      · rename_i hlt
        intro k k0 kn ki
        by_cases e : (k - 1) / 2 = i
        · rw [e]
          by_cases e1 : k = j
          · subst e1; simpa using hlt
          · exact O.tr _ _ _ (by simpa using hlt) (hsib k k0 kn e e1)
        · exact hA k k0 kn ki e
theorem upM_perm (lt : Int → Int → Bool) (f : Nat) : ∀ (l : List Int) (j : Nat), j < l.length → (upM lt f l j).Perm l := by
  induction f with
  | zero => intro l j _; exact List.Perm.refl _
  | succ f ih =>
    intro l j hj
    unfold upM
    split
    · exact List.Perm.refl _
    · split
      · exact (ih _ _ (by rw [swp_length]; omega)).trans (swp_perm (by omega) hj)
      · exact List.Perm.refl _
theorem upM_heap {lt : Int → Int → Bool} (O : Ord lt) (f : Nat) : ∀ (l : List Int) (j n : Nat), n = l.length → j < n → j < f →
    (∀ k, 0 < k → k < n → k ≠ j → lt (rd l k) (rd l ((k - 1) / 2)) = false) →
    (0 < j → ∀ k, 0 < k → k < n → (k - 1) / 2 = j → lt (rd l k) (rd l ((j - 1) / 2)) = false) → heapOn lt (upM lt f l j) 0 n := by
  induction f with
  | zero => intro l j n _ _ hf; omega
  | succ f ih =>
    intro l j n hn hj hf hA hB
    unfold upM
    split
    · rename_i h
      intro k k0 kn _
      exact hA k k0 kn (by omega)
    · rename_i h
      split
      · rename_i hlt
        refine ih _ _ _ (by rw [swp_length]; exact hn) (by omega) (by omega) ?_ ?_
        · intro k k0 kn hk
          rw [rd_swp (by omega) (by omega), rd_swp (by omega) (by omega)]
          by_cases e1 : j = k
          · subst e1
            rw [if_pos rfl, if_neg (by omega), if_pos rfl]
            exact O.asy _ _ hlt
          · rw [if_neg e1, if_neg (Ne.symm hk)]
            by_cases e2 : (k - 1) / 2 = (j - 1) / 2
            · rw [if_neg (by omega), if_pos e2.symm]
              have := hA k k0 kn (Ne.symm e1)
              rw [e2] at this
              exact O.tr _ _ _ (O.asy _ _ hlt) this
            · by_cases e3 : j = (k - 1) / 2
              · rw [if_pos e3]
                exact hB (by omega) k k0 kn e3.symm
              · rw [if_neg e3, if_neg (Ne.symm e2)]
                exact hA k k0 kn (Ne.symm e1)
        · intro hi k k0 kn hk
          rw [rd_swp (by omega) (by omega), rd_swp (by omega) (by omega)]
          rw [if_neg (c := j = ((j - 1) / 2 - 1) / 2) (by omega), if_neg (c := (j - 1) / 2 = ((j - 1) / 2 - 1) / 2) (by omega)]
          have hp := hA ((j - 1) / 2) (by omega) (by omega) (by omega)
          by_cases e1 : j = k
          · rw [if_pos e1]
            exact hp
          · rw [if_neg e1, if_neg (by omega)]
            have h2 := hA k k0 kn (Ne.symm e1)
            rw [hk] at h2
            exact O.tr _ _ _ hp h2
      · rename_i hlt
        intro k k0 kn _
        by_cases e : k = j
        · subst e; simpa using hlt
        · exact hA k k0 kn e
theorem heapOn_least {lt : Int → Int → Bool} (O : Ord lt) {l : List Int} {n : Nat} (h : heapOn lt l 0 n) (h0 : lt (rd l 0) (rd l 0) = false) : ∀ k, k < n → lt (rd l k) (rd l 0) = false := by
  intro k
  induction k using Nat.strongRecOn with
  | _ k ih =>
    intro hk
    rcases Nat.eq_zero_or_pos k with e | e
    · rw [e]; exact h0
    · exact O.tr _ _ _ (ih ((k - 1) / 2) (by omega) (by omega)) (h k e hk (Nat.zero_le _))
/-- Init: from the last that has a child on, down. -/
def initM (lt : Int → Int → Bool) (n : Nat) : Nat → List Int → List Int
  | 0, l => l
  | i + 1, l => initM lt n i (downM lt n l i n)
theorem initM_spec {lt : Int → Int → Bool} (O : Ord lt) (n i : Nat) : ∀ l : List Int, l.length = n → heapOn lt l i n → heapOn lt (initM lt n i l) 0 n ∧ (initM lt n i l).Perm l := by
  induction i with
  | zero => intro l _ h; exact ⟨h, List.Perm.refl _⟩
  | succ i ih =>
    intro l hl h
    have hk := downM_keeps lt n l i n (by omega)
    have hd := downM_heap O i n l i n (by omega) (Nat.le_refl _) (by omega) (fun k k0 kn ki hne => h k k0 kn (by omega)) (fun k _ _ _ hne => absurd rfl hne)
    obtain ⟨h1, h2⟩ := ih (downM lt n l i n) (by rw [hk.1.length_eq, hl]) hd
    exact ⟨h1, h2.trans hk.1⟩
theorem heapOn_half (lt : Int → Int → Bool) (l : List Int) (n : Nat) : heapOn lt l (n / 2) n := by
  intro k k0 kn ki
  omega
theorem rd_take {l : List Int} {n k : Nat} (h : k < n) : rd (l.take n) k = rd l k := by
  unfold rd
  simp only [List.getD_eq_getElem?_getD, List.getElem?_take, if_pos h]
/-- Pop: the first one, the last one in its place, down. -/
def popM (lt : Int → Int → Bool) (l : List Int) : List Int := downM lt l.length (swp l 0 (l.length - 1)) 0 (l.length - 1)
theorem popM_spec {lt : Int → Int → Bool} (O : Ord lt) {l : List Int} (h0 : 0 < l.length) (h : heapOn lt l 0 l.length) :
    (popM lt l).length = l.length ∧ rd (popM lt l) (l.length - 1) = rd l 0 ∧ heapOn lt ((popM lt l).take (l.length - 1)) 0 (l.length - 1) ∧ l.Perm (rd l 0 :: (popM lt l).take (l.length - 1)) := by
  have hk := downM_keeps lt l.length (swp l 0 (l.length - 1)) 0 (l.length - 1) (by rw [swp_length]; omega)
  have hsl := swp_length l 0 (l.length - 1)
  have hlen : (popM lt l).length = l.length := by unfold popM; rw [hk.1.length_eq, hsl]
  have hlast : rd (popM lt l) (l.length - 1) = rd l 0 := by
    unfold popM
    rw [hk.2 _ (Nat.le_refl _), rd_swp (by omega) (by omega), if_pos rfl]
  have hheap := downM_heap O 0 l.length (swp l 0 (l.length - 1)) 0 (l.length - 1) (by omega) (Nat.le_refl _) (by omega) (fun k k0 kn _ hne => by
      rw [rd_swp (by omega) (by omega), rd_swp (by omega) (by omega), if_neg (by omega), if_neg (by omega), if_neg (by omega), if_neg (by omega)]
      exact h k k0 (by omega) (Nat.zero_le _)) (fun k _ _ _ hne => absurd rfl hne)
  refine ⟨hlen, hlast, fun k k0 kn ki => ?_, ?_⟩
  · rw [rd_take kn, rd_take (by omega)]
    exact hheap k k0 kn ki
  · have hp : (popM lt l).Perm l := hk.1.trans (swp_perm (by omega) (by omega))
    have hs : popM lt l = (popM lt l).take (l.length - 1) ++ [rd (popM lt l) (l.length - 1)] := by
      have h1 := List.take_succ_eq_append_getElem (l := popM lt l) (i := l.length - 1) (by omega)
      rw [← rd_getElem, List.take_of_length_le (by omega)] at h1
      exact h1
    rw [hlast] at hs
    refine hp.symm.trans ?_
    rw [hs]
    refine List.perm_append_comm.trans ?_
    simp
    rw [← hs]
def pushM (lt : Int → Int → Bool) (l : List Int) (x : Int) : List Int := upM lt (l.length + 1) (l ++ [x]) l.length
theorem rd_append_left {l r : List Int} {k : Nat} (h : k < l.length) : rd (l ++ r) k = rd l k := by
  unfold rd
  simp only [List.getD_eq_getElem?_getD, List.getElem?_append_left h]
theorem pushM_spec {lt : Int → Int → Bool} (O : Ord lt) {l : List Int} (x : Int) (h : heapOn lt l 0 l.length) : heapOn lt (pushM lt l x) 0 (l.length + 1) ∧ (pushM lt l x).Perm (l ++ [x]) := by
  refine ⟨upM_heap O _ _ _ _ (by simp) (by omega) (by omega) (fun k k0 kn hk => ?_) (fun _ k _ kn hk => by omega), upM_perm lt _ _ _ (by simp)⟩
  rw [rd_append_left (by omega), rd_append_left (by omega)]
  exact h k k0 (by omega) (Nat.zero_le _)
end Go.Proofs.Ytempgkglhgelkaa
