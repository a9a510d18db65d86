/-
  Texts joined into one file: RefI.
-/
import Derived.Test.YtendohnkhbgfbaaDoorJRefPk24
import Derived.Test.YtendohnkhbgfbaaDoorJRefPk13
namespace Go.Proofs.YtendohnkhbgfbaaDoor

structure RInv (ws : List Int) (L : List HT) (out : List Int) : Prop where
 run : ∃ f, hrun f L = rootOf ws ∧ L.length ≤ f + 1
 ok : OutOk ws L out
 nd : (L.flatMap HT.syms).Nodup
 lt : ∀ s ∈ L.flatMap HT.syms, s < ws.length
 pos : ∀ t ∈ L, 0 ≤ t.wt
 sum : sumW L ≤ 4611686018427387904
 one : (leavesOf ws).length ≠ 1 ∨ L.length ≤ 1
 len : L.length ≤ ws.length
 perm : (L.flatMap HT.syms).Perm (posTo ws ws.length)
 bnd : ∀ s, s < ws.length → 0 ≤ rd out s ∧ rd out s + L.length ≤ ws.length + 1
theorem RInv.begin' {ws out : List Int} (hw : ∀ x ∈ ws, 0 ≤ x) (hs : ws.sum ≤ 4611686018427387904) (ho : OutOk ws (leavesOf ws) out)
  (hb : ∀ s, s < ws.length → 0 ≤ rd out s ∧ rd out s + (leavesOf ws).length ≤ ws.length + 1) : RInv ws (leavesOf ws) out := by
 refine ⟨⟨_, rfl, by omega⟩, ho, leaves_nodup ws _, fun s h => ?_, fun t ht => ?_, ?_, ?_, by rw [leavesOf_length]; exact posTo_le ws _, by unfold leavesOf; rw [leavesTo_syms], hb⟩
 ·unfold leavesOf at h
  rw [leavesTo_syms] at h
  exact (mem_posTo.1 h).1
 ·obtain ⟨s, _, h2, rfl⟩ := mem_leavesTo ht
  simp only [HT.wt]; omega
 ·have := sum_leaves_le ws hw ws.length (Nat.le_refl _)
  rw [List.take_length] at this
  unfold leavesOf
  omega
 ·omega
theorem RInv.start {ws : List Int} (hw : ∀ x ∈ ws, 0 ≤ x) (hs : ws.sum ≤ 4611686018427387904) (hl : (leavesOf ws).length ≠ 1) : RInv ws (leavesOf ws) (List.replicate ws.length 0) :=
 RInv.begin' hw hs (OutOk.start ws hl) (fun s _ => by
  rw [rd_zeros]
  have := posTo_le ws ws.length
  have := leavesOf_length ws
  omega)
theorem leaf_one {ws : List Int} (hl : (leavesOf ws).length = 1) : ∃ s0, s0 < ws.length ∧ leavesOf ws = [.leaf (rd ws s0) s0] := by
 obtain ⟨t, ht⟩ := List.length_eq_one_iff.1 hl
 obtain ⟨s, h1, _, rfl⟩ := mem_leavesTo (ws := ws) (k := ws.length) (t := t) (by show t ∈ leavesOf ws; rw [ht]; simp)
 exact ⟨s, h1, ht⟩
theorem RInv.oneLeaf {ws : List Int} (hw : ∀ x ∈ ws, 0 ≤ x) (hs : ws.sum ≤ 4611686018427387904) {s0 : Nat} (hs0 : s0 < ws.length) (hl : leavesOf ws = [.leaf (rd ws s0) s0]) : RInv ws (leavesOf ws) ((List.replicate ws.length 0).set s0 1) :=
 RInv.begin' hw hs (OutOk.one ws s0 _ hs0 hl) (fun s _ => by
  rw [rd_set (by simpa using hs0), rd_zeros, hl]
  show 0 ≤ _ ∧ _ + ((1 : Nat) : Int) ≤ _
  split <;> omega)
theorem sumW_two {L : List HT} (hp : ∀ t ∈ L, 0 ≤ t.wt) {a q : Nat} (ha : a < L.length) (hq : q < L.length) (hqa : q ≠ a) : 0 ≤ wtAt L a ∧ 0 ≤ wtAt L q ∧ wtAt L a + wtAt L q ≤ sumW L := by
 have hl : (L.eraseIdx a).length = L.length - 1 := List.length_eraseIdx_of_lt ha
 have key : ∀ (M : List HT) (i : Nat), i < M.length → (∀ t ∈ M, 0 ≤ t.wt) → 0 ≤ wtAt M i ∧ sumW M = wtAt M i + sumW (M.eraseIdx i) ∧ ∀ t ∈ M.eraseIdx i, 0 ≤ t.wt := by
  intro M i hi hM
  have p := getD_cons_erase hi
  refine ⟨?_, ?_, fun t ht => hM t (List.mem_of_mem_eraseIdx ht)⟩
  ·unfold wtAt
   exact hM _ ((p.mem_iff).2 (by simp))
  ·rw [sumW_perm p]
   simp [sumW, wtAt]
 obtain ⟨k1, k2, k3⟩ := key L a ha hp
 have hb : (if q < a then q else q - 1) < (L.eraseIdx a).length := by split <;> omega
 obtain ⟨k4, k5, k6⟩ := key (L.eraseIdx a) _ hb k3
 have e : wtAt (L.eraseIdx a) (if q < a then q else q - 1) = wtAt L q := by
  unfold wtAt
  rw [getD_erase]
  congr 2
  by_cases e : q < a
  ·rw [if_pos e, if_pos e]
  ·rw [if_neg e, if_neg (by omega)]; omega
 rw [e] at k4 k5
 have := sumW_ge k6
 exact ⟨k1, k4, by omega⟩
theorem RInv.step {ws : List Int} {L : List HT} {out out' : List Int} (h : RInv ws L out) {a q : Nat} (h1 : 1 < L.length) (ha : a < L.length) (hA : ∀ j, j < L.length → wtAt L a ≤ wtAt L j) (hA' : ∀ j, j < a → wtAt L a < wtAt L j)
  (hq : q < L.length) (hqa : q ≠ a) (hQ : ∀ j, j < L.length → j ≠ a → wtAt L q ≤ wtAt L j) (hQ' : ∀ j, j < q → j ≠ a → wtAt L q < wtAt L j)
  (hl : out'.length = ws.length) (ho : ∀ s, s < ws.length → rd out' s = rd out s + if s ∈ (L.getD a default).syms ++ (L.getD q default).syms then 1 else 0) :
  RInv ws (restTo L a q L.length ++ [.node (L.getD a default) (L.getD q default)]) out' := by
 have eA := hA_of ha hA hA'
 obtain ⟨eB, eG⟩ := hB_of eA ha hq hqa hQ hQ'
 have hst : restTo L a q L.length ++ [.node (L.getD a default) (L.getD q default)] = hstep L := by
  unfold hstep
  rw [restTo_all ha hq hqa, eG, ← eA, eB]
 obtain ⟨x, y, rest, hp, he, ex, ey, _, _, _⟩ := hstep_parts h1
 rw [← eA] at ex
 rw [eG] at ey
 subst ex ey
 have hne : (leavesOf ws).length ≠ 1 := by
  rcases h.one with h2 | h2
  ·exact h2
  ·omega
 rw [hst]
 obtain ⟨f, hf, hfl⟩ := h.run
 have hsl := hstep_length h1
 refine ⟨?_, h.ok.step h1 h.nd hne hp he hl ho, ((hstep_syms h1).nodup_iff).2 h.nd, fun s hs => h.lt s ((hstep_syms h1).mem_iff.1 hs), ?_, ?_, .inl hne, by rw [hsl]; have := h.len; omega, (hstep_syms h1).trans h.perm, fun s hs => ?_⟩
 ·cases f with
  | zero => omega
  | succ f =>
   unfold hrun at hf
   rw [if_neg (by omega)] at hf
   exact ⟨f, hf, by omega⟩
 ·intro t ht
  rw [he] at ht
  rcases List.mem_append.1 ht with ht | ht
  ·exact h.pos t (hp.mem_iff.2 (by simp [ht]))
  ·rw [List.mem_singleton] at ht
   subst ht
   have p1 := h.pos (L.getD a default) (hp.mem_iff.2 (by simp))
   have p2 := h.pos (L.getD q default) (hp.mem_iff.2 (by simp))
   simp only [HT.wt]
   omega
 ·rw [sumW_step h1]; exact h.sum
 ·have := h.bnd s hs
  rw [ho s hs, hsl]
  split <;> omega
theorem syms_len_le {t : HT} : ∀ {L : List HT}, t ∈ L → t.syms.length ≤ (L.flatMap HT.syms).length
 | [], h => by cases h
 | u :: L, h => by
  rw [List.flatMap_cons, List.length_append]
  rcases List.mem_cons.1 h with rfl | h
  ·omega
  ·have := syms_len_le h; omega
theorem RInv.symsLe {ws : List Int} {L : List HT} {out : List Int} (h : RInv ws L out) {i : Nat} (hi : i < L.length) : (L.getD i default).syms.length ≤ ws.length := by
 have h1 : L.getD i default ∈ L := by
  rw [List.getD_eq_getElem?_getD, List.getElem?_eq_getElem hi]
  exact List.getElem_mem _
 have h2 := syms_len_le h1
 have h3 := h.perm.length_eq
 have := posTo_le ws ws.length
 omega
theorem RInv.fin {ws : List Int} {L : List HT} {out : List Int} (h : RInv ws L out) (h1 : L.length ≤ 1) : out = onceM ws := by
 obtain ⟨f, hf, _⟩ := h.run
 have hL : rootOf ws = L := by
  rw [← hf]
  cases f with
  | zero => rfl
  | succ f => unfold hrun; rw [if_pos h1]
 cases L with
 | nil =>
  apply List.ext_getElem (by rw [h.ok.1, onceM_length])
  intro s g1 g2
  have hs : s < ws.length := by have := h.ok.1; omega
  rw [← rd_getElem g1, (h.ok.2 s hs).2 (by rw [depIn_none]; simp)]
  have : depIn (rootOf ws) s = none := by rw [hL, depIn_none]; simp
  simp [onceM, this]
 | cons t L =>
  have : L = [] := List.length_eq_zero_iff.1 (by have : (t :: L).length = L.length + 1 := rfl; omega)
  subst this
  exact h.ok.fin hL
theorem getD_at {L : List HT} {p : Nat} (hp : p < L.length) : L.getD p default = L[p] := by simp [List.getD_eq_getElem?_getD, List.getElem?_eq_getElem hp]
theorem RInv.nd2 {ws : List Int} {L : List HT} {out : List Int} (h : RInv ws L out) {p q : Nat} (hp : p < L.length) (hq : q < L.length) (hqp : q ≠ p) : ((L.getD p default).syms ++ (L.getD q default).syms).Nodup := by
 obtain ⟨h2, h3⟩ := List.pairwise_flatMap.1 h.nd
 rw [getD_at hp, getD_at hq]
 refine List.nodup_append.2 ⟨h2 _ (List.getElem_mem _), h2 _ (List.getElem_mem _), fun a ha b hb => ?_⟩
 rcases Nat.lt_or_gt_of_ne hqp with g | g
 ·exact (List.pairwise_iff_getElem.1 h3 q p hq hp g b hb a ha).symm
 ·exact List.pairwise_iff_getElem.1 h3 p q hp hq g a ha b hb
theorem RInv.ltTwo {ws : List Int} {L : List HT} {out : List Int} (h : RInv ws L out) {p q s : Nat} (hp : p < L.length) (hq : q < L.length) (hs : s ∈ (L.getD p default).syms ++ (L.getD q default).syms) : s < ws.length := by
 rw [getD_at hp, getD_at hq] at hs
 rcases List.mem_append.1 hs with g | g
 ·exact h.lt s (List.mem_flatMap.2 ⟨_, List.getElem_mem _, g⟩)
 ·exact h.lt s (List.mem_flatMap.2 ⟨_, List.getElem_mem _, g⟩)
def Raised (out out' : List Int) (ss : List Nat) (i : Nat) : Prop := out'.length = out.length ∧ ∀ s, s < out.length → rd out' s = rd out s + if s ∈ ss.take i then 1 else 0
theorem Raised.zero (out : List Int) (ss : List Nat) : Raised out out ss 0 := ⟨rfl, fun s _ => by simp⟩
theorem Raised.next {out out' : List Int} {ss : List Nat} {i : Nat} (h : Raised out out' ss i) (hn : ss.Nodup) (hi : i < ss.length) (hs : ss[i] < out.length) : rd out' ss[i] = rd out ss[i] ∧ Raised out (out'.set ss[i] (rd out' ss[i] + 1)) ss (i + 1) := by
 have hni : ss[i] ∉ ss.take i := fun hm => by
  obtain ⟨j, hj, e⟩ := List.getElem_of_mem hm
  rw [List.length_take] at hj
  rw [List.getElem_take] at e
  exact List.pairwise_iff_getElem.1 hn j i (by omega) hi (by omega) e
 have h0 : rd out' ss[i] = rd out ss[i] := by rw [h.2 _ hs, if_neg hni]; omega
 refine ⟨h0, by rw [List.length_set]; exact h.1, fun s hs' => ?_⟩
 rw [rd_set (by rw [h.1]; exact hs), List.take_succ_eq_append_getElem hi]
 by_cases e : ss[i] = s
 ·rw [if_pos e, if_pos (List.mem_append_right _ (List.mem_singleton.2 e.symm)), h0, e]
 ·rw [if_neg e, h.2 s hs']
  congr 1
  by_cases g : s ∈ ss.take i
  ·rw [if_pos g, if_pos (List.mem_append_left _ g)]
  ·rw [if_neg g, if_neg (fun k => (List.mem_append.1 k).elim g (fun k => e (List.mem_singleton.1 k).symm))]
end Go.Proofs.YtendohnkhbgfbaaDoor
