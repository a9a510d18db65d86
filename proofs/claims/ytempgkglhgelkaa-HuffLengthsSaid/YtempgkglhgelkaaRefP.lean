/-
  Plain facts: the reference's loop over groups (no program).
-/
import Derived.Test.YtempgkglhgelkaaHuffY
namespace Go.Proofs.Ytempgkglhgelkaa

/-- What is written of depths so far. -/
def OutOk (ws : List Int) (L : List HT) (out : List Int) : Prop := out.length = ws.length ∧ ∀ s, s < ws.length →
  (∀ k, depIn L s = some k → rd out s = ((if (leavesOf ws).length = 1 then 1 else k : Nat) : Int)) ∧ (depIn L s = none → rd out s = 0)
theorem OutOk.step {ws : List Int} {L : List HT} {out out' : List Int} (h : OutOk ws L out) (h1 : 1 < L.length) (hn : (L.flatMap HT.syms).Nodup) (hl : (leavesOf ws).length ≠ 1) {a b : HT} {rest : List HT} (hp : L.Perm (a :: b :: rest)) (he : hstep L = rest ++ [.node a b])
    (hlen : out'.length = ws.length) (ho : ∀ s, s < ws.length → rd out' s = rd out s + if s ∈ a.syms ++ b.syms then 1 else 0) : OutOk ws (hstep L) out' := by
  refine ⟨hlen, fun s hs => ?_⟩
  have hd := depIn_step h1 hn hp he s
  obtain ⟨q1, q2⟩ := h.2 s hs
  rw [hd, ho s hs]
  by_cases e : s ∈ a.syms ++ b.syms
  · rw [if_pos e, if_pos e]
    cases ed : depIn L s with
    | none =>
      exfalso
      rw [depIn_none] at ed
      apply ed
      rw [(hp.flatMap_right HT.syms).mem_iff]
      simp only [List.flatMap_cons, List.mem_append] at e ⊢
      rcases e with e | e
      · exact .inl e
      · exact .inr (.inl e)
    | some k =>
      refine ⟨fun k' hk' => ?_, fun h0 => by simp at h0⟩
      simp at hk'
      have := q1 k ed
      rw [if_neg hl] at this ⊢
      omega
  · rw [if_neg e, if_neg e]
    refine ⟨fun k hk => ?_, fun h0 => ?_⟩
    · have := q1 k hk; omega
    · have := q2 h0; omega
theorem OutOk.fin {ws : List Int} {root : HT} {out : List Int} (h : OutOk ws [root] out) (hr : rootOf ws = [root]) : out = onceM ws := by
  apply List.ext_getElem (by rw [h.1, onceM_length])
  intro s h1 h2
  have hs : s < ws.length := by have := h.1; omega
  obtain ⟨q1, q2⟩ := h.2 s hs
  rw [← rd_getElem h1]
  rw [← hr] at q1 q2
  cases e : depIn (rootOf ws) s with
  | none =>
    rw [q2 e]
    simp [onceM, e]
  | some k =>
    rw [q1 k e]
    have hv : (onceM ws)[s] = ((max k 1 : Nat) : Int) := by simp [onceM, e]
    rw [hv]
    have hk := (depIn_mem (rootOf_nodup ws) s k).1 e
    rw [hr] at hk
    have hk' : (s, k) ∈ root.dep := by simpa using hk
    have hsy : root.syms.length = (leavesOf ws).length := by
      have := (rootOf_syms ws).length_eq
      rw [hr, ← leavesOf_length] at this
      simpa using this
    cases hrt : root with
    | leaf w s' =>
      rw [hrt] at hk' hsy
      simp [HT.dep] at hk'
      have : (leavesOf ws).length = 1 := by rw [← hsy]; rfl
      rw [if_pos this, hk'.2]
      rfl
    | node l r =>
      rw [hrt] at hk' hsy
      have h1 : 1 ≤ k := by
        simp only [HT.dep, List.mem_map] at hk'
        obtain ⟨q, _, e2⟩ := hk'
        simp at e2
        omega
      have hne : ∀ t : HT, 1 ≤ t.syms.length := by
        intro t
        induction t with
        | leaf w s => simp [HT.syms]
        | node a b ia ib => simp only [HT.syms, List.length_append]; omega
      have : (leavesOf ws).length ≠ 1 := by
        rw [← hsy]
        have := hne l
        have := hne r
        simp only [HT.syms, List.length_append]
        omega
      rw [if_neg this, Nat.max_eq_left h1]
theorem syms_pos (t : HT) : 1 ≤ t.syms.length := by
  induction t with
  | leaf w s => simp [HT.syms]
  | node a b ia ib => simp only [HT.syms, List.length_append]; omega
theorem leaves_dep (ws : List Int) (k : Nat) : ∀ p ∈ (leavesTo ws k).flatMap HT.dep, p.2 = 0 := by
  intro p hp
  obtain ⟨t, ht, hpt⟩ := List.mem_flatMap.1 hp
  obtain ⟨s, _, _, rfl⟩ := mem_leavesTo ht
  simp [HT.dep] at hpt
  rw [hpt]
theorem leaves_nodup (ws : List Int) (k : Nat) : ((leavesTo ws k).flatMap HT.syms).Nodup := by rw [leavesTo_syms]; exact posTo_nodup ws k
theorem OutOk.start (ws : List Int) (hl : (leavesOf ws).length ≠ 1) : OutOk ws (leavesOf ws) (List.replicate ws.length 0) := by
  refine ⟨by simp, fun s hs => ⟨fun k hk => ?_, fun _ => rd_zeros _ _⟩⟩
  have h1 := (depIn_mem (leaves_nodup ws ws.length) s k).1 hk
  have h2 := leaves_dep ws ws.length _ h1
  simp at h2
  rw [rd_zeros, if_neg hl, h2]
  rfl
theorem OutOk.one (ws : List Int) (s0 : Nat) (w0 : Int) (hs0 : s0 < ws.length) (hl : leavesOf ws = [.leaf w0 s0]) : OutOk ws (leavesOf ws) ((List.replicate ws.length 0).set s0 1) := by
  refine ⟨by simp, fun s hs => ?_⟩
  have hd : depIn (leavesOf ws) s = if s = s0 then some 0 else none := by
    rw [hl]
    unfold depIn
    simp only [List.flatMap_cons, List.flatMap_nil, HT.dep, List.append_nil, List.lookup_cons, List.lookup_nil]
    by_cases e : s = s0
    · subst e; simp
    · have : (s == s0) = false := by simpa using e
      rw [this, if_neg e]
  rw [hd, rd_set (by simpa using hs0), rd_zeros]
  by_cases e : s = s0
  · rw [if_pos e, if_pos e.symm]
    refine ⟨fun k _ => ?_, fun h => by cases h⟩
    rw [if_pos (show (leavesOf ws).length = 1 by rw [hl]; rfl)]
    rfl
  · rw [if_neg e, if_neg (Ne.symm e)]
    exact ⟨fun k hk => (by cases hk), fun _ => rfl⟩
/-! ### places -/
def wtAt (L : List HT) (j : Nat) : Int := (L.getD j default).wt
theorem rd_wts (L : List HT) (j : Nat) (h : j < L.length) : rd (L.map HT.wt) j = wtAt L j := by
  unfold wtAt
  rw [rd_getElem (by simpa using h), List.getD_eq_getElem?_getD, List.getElem?_eq_getElem h]
  simp
theorem hA_of {L : List HT} {a : Nat} (ha : a < L.length) (h1 : ∀ j, j < L.length → wtAt L a ≤ wtAt L j) (h2 : ∀ j, j < a → wtAt L a < wtAt L j) : a = hA L := by
  refine minPos_unique (by simpa using ha) (fun j hj => ?_) (fun j hj => ?_)
  · simp only [List.length_map] at hj
    rw [rd_wts L a ha, rd_wts L j hj]
    exact h1 j hj
  · rw [rd_wts L a ha, rd_wts L j (by omega)]
    exact h2 j hj
theorem getD_erase (L : List HT) (a j : Nat) : (L.eraseIdx a).getD j default = L.getD (if j < a then j else j + 1) default := by
  rw [List.getD_eq_getElem?_getD, List.getD_eq_getElem?_getD, List.getElem?_eraseIdx]
  split <;> rfl
theorem hB_of {L : List HT} {a q : Nat} (haL : a = hA L) (ha : a < L.length) (hq : q < L.length) (hqa : q ≠ a) (h1 : ∀ j, j < L.length → j ≠ a → wtAt L q ≤ wtAt L j) (h2 : ∀ j, j < q → j ≠ a → wtAt L q < wtAt L j) :
    hB L = (if q < a then q else q - 1) ∧ (L.eraseIdx (hA L)).getD (hB L) default = L.getD q default := by
  have hl : (L.eraseIdx a).length = L.length - 1 := List.length_eraseIdx_of_lt ha
  have hw : ∀ j, j < L.length - 1 → wtAt (L.eraseIdx a) j = wtAt L (if j < a then j else j + 1) := fun j hj => by
    unfold wtAt
    rw [getD_erase L a j]
  have hb : (if q < a then q else q - 1) < L.length - 1 := by split <;> omega
  have hback : (if (if q < a then q else q - 1) < a then (if q < a then q else q - 1) else (if q < a then q else q - 1) + 1) = q := by
    by_cases e : q < a
    · rw [if_pos e, if_pos e]
    · rw [if_neg e, if_neg (by omega)]; omega
  have e1 : (if q < a then q else q - 1) = hB L := by
    unfold hB
    rw [← haL]
    refine minPos_unique (by simp [hl]; exact hb) (fun j hj => ?_) (fun j hj => ?_)
    · simp only [List.length_map] at hj
      rw [rd_wts _ _ (by omega), rd_wts _ j hj, hw _ hb, hw j (by omega), hback]
      refine h1 _ (by split <;> omega) (by split <;> omega)
    · rw [rd_wts _ _ (by omega), rd_wts _ j (by omega), hw _ hb, hw j (by omega), hback]
      by_cases e : q < a
      · rw [if_pos e] at hj
        rw [if_pos (by omega)]
        exact h2 j hj (by omega)
      · rw [if_neg e] at hj
        refine h2 _ ?_ ?_
        · split <;> omega
        · split <;> omega
  refine ⟨e1.symm, ?_⟩
  rw [← haL, ← e1, getD_erase L a _, hback]
/-- All but two of the first i. -/
def restTo (L : List HT) (a q : Nat) : Nat → List HT
  | 0 => []
  | i + 1 => if i = a ∨ i = q then restTo L a q i else restTo L a q i ++ [L.getD i default]
theorem restTo_len (L : List HT) (a q : Nat) : ∀ i, (restTo L a q i).length ≤ i
  | 0 => by simp [restTo]
  | i + 1 => by
    have := restTo_len L a q i
    unfold restTo
    split
    · omega
    · simp; omega
theorem restTo_take {L : List HT} {a q : Nat} (ha : a < L.length) (hq : q < L.length) (hqa : q ≠ a) : ∀ i, i ≤ L.length →
    restTo L a q i = ((L.eraseIdx a).eraseIdx (if q < a then q else q - 1)).take (i - (if a < i then 1 else 0) - (if q < i then 1 else 0))
  | 0, _ => by simp [restTo]
  | i + 1, hi => by
    have ih := restTo_take ha hq hqa i (by omega)
    have hl : (L.eraseIdx a).length = L.length - 1 := List.length_eraseIdx_of_lt ha
    have hb : (if q < a then q else q - 1) < L.length - 1 := by split <;> omega
    have hl2 : ((L.eraseIdx a).eraseIdx (if q < a then q else q - 1)).length = L.length - 2 := by rw [List.length_eraseIdx_of_lt (by omega)]; omega
    unfold restTo
    by_cases e : i = a ∨ i = q
    · rw [if_pos e, ih]
      congr 1
      rcases e with e | e
      · subst e
        by_cases g : q < i
        · rw [if_neg (by omega), if_pos g, if_pos (by omega), if_pos (by omega)]; omega
        · rw [if_neg (by omega), if_neg g, if_pos (by omega), if_neg (by omega)]; omega
      · subst e
        by_cases g : a < i
        · rw [if_pos g, if_neg (by omega), if_pos (by omega), if_pos (by omega)]; omega
        · rw [if_neg g, if_neg (by omega), if_neg (by omega), if_pos (by omega)]; omega
    · rw [if_neg e, ih]
      have ea : (if a < i + 1 then 1 else 0) = (if a < i then 1 else 0) := by
        by_cases g : a < i
        · rw [if_pos g, if_pos (by omega)]
        · rw [if_neg g, if_neg (by omega)]
      have eq : (if q < i + 1 then 1 else 0) = (if q < i then 1 else 0) := by
        by_cases g : q < i
        · rw [if_pos g, if_pos (by omega)]
        · rw [if_neg g, if_neg (by omega)]
      rw [ea, eq]
      have hc : i + 1 - (if a < i then 1 else 0) - (if q < i then 1 else 0) = (i - (if a < i then 1 else 0) - (if q < i then 1 else 0)) + 1 := by
        by_cases g1 : a < i <;> by_cases g2 : q < i <;> simp [g1, g2] <;> omega
      rw [hc]
      have hlt : i - (if a < i then 1 else 0) - (if q < i then 1 else 0) < ((L.eraseIdx a).eraseIdx (if q < a then q else q - 1)).length := by
        rw [hl2]
        by_cases g1 : a < i <;> by_cases g2 : q < i <;> simp [g1, g2] <;> omega
      rw [List.take_succ_eq_append_getElem hlt]
      congr 1
      congr 1
      have h5 : ((L.eraseIdx a).eraseIdx (if q < a then q else q - 1))[i - (if a < i then 1 else 0) - (if q < i then 1 else 0)]? = L[i]? := by
        by_cases g1 : a < i <;> by_cases g2 : q < i <;> by_cases g3 : q < a
        all_goals simp only [g1, g2, g3, if_true, if_false]
        all_goals
          first
          | (exfalso; omega)
          | (rw [List.getElem?_eraseIdx]
             (first | rw [if_pos (by omega)] | rw [if_neg (by omega)])
             rw [List.getElem?_eraseIdx]
             (first | rw [if_pos (by omega)] | rw [if_neg (by omega)])
             first | rfl | (congr 1; omega))
      rw [List.getElem?_eq_getElem hlt, List.getElem?_eq_getElem (by omega)] at h5
      rw [List.getD_eq_getElem?_getD, List.getElem?_eq_getElem (by omega), Option.getD_some]
      exact (Option.some.inj h5).symm
theorem restTo_all {L : List HT} {a q : Nat} (ha : a < L.length) (hq : q < L.length) (hqa : q ≠ a) : restTo L a q L.length = (L.eraseIdx a).eraseIdx (if q < a then q else q - 1) := by
  have hl : (L.eraseIdx a).length = L.length - 1 := List.length_eraseIdx_of_lt ha
  have hb : (if q < a then q else q - 1) < L.length - 1 := by split <;> omega
  rw [restTo_take ha hq hqa L.length (Nat.le_refl _), if_pos ha, if_pos hq]
  apply List.take_of_length_le
  rw [List.length_eraseIdx_of_lt (by omega)]
  omega
end Go.Proofs.Ytempgkglhgelkaa
