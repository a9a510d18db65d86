/-
  Plain facts: nodes in a flat list as trees; who waits as a heap (no program).
-/
import Derived.Test.YtempgkglhgelkaaHuffV
import Derived.Test.YtempgkglhgelkaaHeapP
namespace Go.Proofs.Ytempgkglhgelkaa

/-- Node i of the flat list, and the symbols of its leaves, are this tree. -/
def TreeAt (flat sy : List Int) : HT → Nat → Prop
  | .leaf w s, i => rd flat (i * 4) = w ∧ rd flat (i * 4 + 2) = -1 ∧ i < sy.length ∧ rd sy i = (s : Nat)
  | .node l r, i => ∃ a b : Nat, rd flat (i * 4) = l.wt + r.wt ∧ rd flat (i * 4 + 2) = (a : Int) ∧ rd flat (i * 4 + 3) = (b : Int) ∧ a < i ∧ b < i ∧ TreeAt flat sy l a ∧ TreeAt flat sy r b
theorem TreeAt.wt {flat sy : List Int} : ∀ {t : HT} {i : Nat}, TreeAt flat sy t i → rd flat (i * 4) = t.wt
  | .leaf _ _, _, h => h.1
  | .node _ _, _, ⟨_, _, h, _⟩ => h
theorem TreeAt.more {flat sy : List Int} (r : List Int) : ∀ {t : HT} {i : Nat}, TreeAt flat sy t i → i * 4 + 4 ≤ flat.length → TreeAt (flat ++ r) sy t i
  | .leaf _ _, i, ⟨h1, h2, h3, h4⟩, hl => ⟨by rw [rd_append_left (by omega)]; exact h1, by rw [rd_append_left (by omega)]; exact h2, h3, h4⟩
  | .node l r', i, ⟨a, b, h1, h2, h3, ha, hb, hl, hr⟩, hlen =>
    ⟨a, b, by rw [rd_append_left (by omega)]; exact h1, by rw [rd_append_left (by omega)]; exact h2, by rw [rd_append_left (by omega)]; exact h3, ha, hb, hl.more r (by omega), hr.more r (by omega)⟩
theorem TreeAt.moreS {flat sy : List Int} (r : List Int) : ∀ {t : HT} {i : Nat}, TreeAt flat sy t i → TreeAt flat (sy ++ r) t i
  | .leaf _ _, i, ⟨h1, h2, h3, h4⟩ => ⟨h1, h2, by rw [List.length_append]; omega, by rw [rd_append_left h3]; exact h4⟩
  | .node l r', i, ⟨a, b, h1, h2, h3, ha, hb, hl, hr⟩ => ⟨a, b, h1, h2, h3, ha, hb, hl.moreS r, hr.moreS r⟩
/-- Depths written into the symbols' places. -/
def writeD : HT → Nat → List Int → List Int
  | .leaf _ s, d, out => out.set s (max d 1 : Nat)
  | .node l r, d, out => writeD r (d + 1) (writeD l (d + 1) out)
theorem writeD_length : ∀ (t : HT) (d : Nat) (out : List Int), (writeD t d out).length = out.length
  | .leaf _ _, _, _ => by simp [writeD]
  | .node l r, d, out => by simp only [writeD, writeD_length]
theorem writeD_spec : ∀ (t : HT) (d : Nat) (out : List Int), t.syms.Nodup → (∀ s ∈ t.syms, s < out.length) →
    (∀ s k, (s, k) ∈ t.dep → rd (writeD t d out) s = (max (d + k) 1 : Nat)) ∧ ∀ s, s ∉ t.syms → rd (writeD t d out) s = rd out s
  | .leaf w s, d, out, _, hs => by
    have h0 := hs s (by simp [HT.syms])
    refine ⟨fun s' k h => ?_, fun s' h => ?_⟩
    · simp [HT.dep] at h
      obtain ⟨rfl, rfl⟩ := h
      unfold writeD
      rw [rd_set h0, if_pos rfl, Nat.add_zero]
    · simp [HT.syms] at h
      unfold writeD
      rw [rd_set h0, if_neg (Ne.symm h)]
  | .node l r, d, out, hn, hs => by
    simp only [HT.syms] at hn hs
    obtain ⟨n1, n2, n3⟩ := List.nodup_append.1 hn
    obtain ⟨l1, l2⟩ := writeD_spec l (d + 1) out n1 (fun s h => hs s (List.mem_append.2 (.inl h)))
    obtain ⟨r1, r2⟩ := writeD_spec r (d + 1) (writeD l (d + 1) out) n2 (fun s h => by rw [writeD_length]; exact hs s (List.mem_append.2 (.inr h)))
    have hmem : ∀ (t : HT) (x k : Nat), (x, k) ∈ t.dep → x ∈ t.syms := fun t x k hx => by
      rw [← HT.dep_syms]
      exact List.mem_map.2 ⟨_, hx, rfl⟩
    refine ⟨fun s k h => ?_, fun s h => ?_⟩
    · simp only [HT.dep, List.mem_map, List.mem_append] at h
      obtain ⟨⟨s', k'⟩, h, he⟩ := h
      simp only [Prod.mk.injEq] at he
      obtain ⟨rfl, rfl⟩ := he
      simp only [writeD]
      rcases h with h | h
      · rw [r2 s' (fun h2 => n3 s' (hmem l s' k' h) s' h2 rfl), l1 s' k' h]
        congr 2
        omega
      · rw [r1 s' k' h]
        congr 2
        omega
    · simp only [HT.syms, List.mem_append, not_or] at h
      simp only [writeD]
      rw [r2 s h.2, l2 s h.1]
theorem rd_zeros (n s : Nat) : rd (List.replicate n 0) s = 0 := by
  unfold rd
  rw [List.getD_eq_getElem?_getD, List.getElem?_replicate]
  split <;> rfl
/-- The whole: depths of the one tree that is left. -/
theorem writeD_once (ws : List Int) (root : HT) (h : rootOf ws = [root]) : writeD root 0 (List.replicate ws.length 0) = onceM ws := by
  have hn : root.syms.Nodup := by have := rootOf_nodup ws; rw [h] at this; simpa using this
  have hs : ∀ s ∈ root.syms, s < ws.length := fun s hs => by
    have h1 := (rootOf_syms ws).mem_iff (a := s)
    rw [h] at h1
    exact (mem_posTo.1 (h1.1 (by simpa using hs))).1
  obtain ⟨h1, h2⟩ := writeD_spec root 0 (List.replicate ws.length 0) hn (by simpa using hs)
  have hlen : (writeD root 0 (List.replicate ws.length 0)).length = ws.length := by rw [writeD_length]; simp
  apply List.ext_getElem (by rw [hlen, onceM_length])
  intro s q1 q2
  rw [← rd_getElem q1]
  cases hd : depIn (rootOf ws) s with
  | some k =>
    have h3 := (depIn_mem (rootOf_nodup ws) s k).1 hd
    rw [h] at h3
    rw [h1 s k (by simpa using h3)]
    simp [onceM, hd]
  | none =>
    have h3 := (depIn_none s).1 hd
    rw [h] at h3
    rw [h2 s (by simpa using h3), rd_zeros]
    simp [onceM, hd]
/-- Nodes of a flat list, and the order of who waits. -/
def FlatOk (flat sy : List Int) (L : List (Nat × HT)) : Prop := ∀ x ∈ L, TreeAt flat sy x.2 x.1 ∧ rd flat (x.1 * 4 + 1) = (x.1 : Int) ∧ x.1 * 4 + 4 ≤ flat.length
def ltF' (flat : List Int) (x y : Int) : Bool := decide (rd flat (x.toNat * 4) < rd flat (y.toNat * 4)) || (rd flat (x.toNat * 4) == rd flat (y.toNat * 4) && decide (rd flat (x.toNat * 4 + 1) < rd flat (y.toNat * 4 + 1)))
theorem ltF_iff {flat sy : List Int} {L : List (Nat × HT)} (h : FlatOk flat sy L) {x y : Nat × HT} (hx : x ∈ L) (hy : y ∈ L) : ltF' flat (x.1 : Int) (y.1 : Int) = true ↔ ltT x y := by
  obtain ⟨x1, x2, _⟩ := h x hx
  obtain ⟨y1, y2, _⟩ := h y hy
  unfold ltF' ltT
  rw [Int.toNat_natCast, Int.toNat_natCast, x1.wt, y1.wt, x2, y2]
  simp
theorem FlatOk.more {flat sy : List Int} {L : List (Nat × HT)} (h : FlatOk flat sy L) (r : List Int) : FlatOk (flat ++ r) sy L := fun x hx => by
  obtain ⟨h1, h2, h3⟩ := h x hx
  exact ⟨h1.more r h3, by rw [rd_append_left (by omega)]; exact h2, by rw [List.length_append]; omega⟩
theorem FlatOk.perm {flat sy : List Int} {L M : List (Nat × HT)} (h : FlatOk flat sy L) (hp : ∀ x ∈ M, x ∈ L) : FlatOk flat sy M := fun x hx => h x (hp x hx)
/-- What Pop gives is the least one; the others wait on. -/
theorem pop_least {flat sy wait : List Int} {M : List (Nat × HT)} {a : Nat × HT} {rest : List (Nat × HT)} (O : Ord (ltF' flat)) (hM : FlatOk flat sy M) (hp : M.Perm (a :: rest)) (ha : ∀ u ∈ rest, ltT a u) (hw : wait.Perm (M.map fun x => (x.1 : Int))) (hh : heapOn (ltF' flat) wait 0 wait.length) :
    rd (popM (ltF' flat) wait) (wait.length - 1) = (a.1 : Int) ∧ ((popM (ltF' flat) wait).take (wait.length - 1)).Perm (rest.map fun x => (x.1 : Int)) ∧ heapOn (ltF' flat) ((popM (ltF' flat) wait).take (wait.length - 1)) 0 ((popM (ltF' flat) wait).take (wait.length - 1)).length := by
  have hl : 0 < wait.length := by rw [hw.length_eq, List.length_map, hp.length_eq]; simp
  obtain ⟨p1, p2, p3, p4⟩ := popM_spec O hl hh
  have hirr : ltF' flat (rd wait 0) (rd wait 0) = false := by
    cases e : ltF' flat (rd wait 0) (rd wait 0)
    · rfl
    · exact absurd (O.asy _ _ e) (by rw [e]; decide)
  have hmin := heapOn_least O hh hirr
  have h0 : rd wait 0 ∈ M.map fun x => (x.1 : Int) := by
    rw [← hw.mem_iff, rd_getElem hl]
    exact List.getElem_mem _
  obtain ⟨y, hy, e0⟩ := List.mem_map.1 h0
  have hya : y = a := by
    rcases List.mem_cons.1 (hp.mem_iff.1 hy) with h1 | h1
    · exact h1
    · exfalso
      have haM : a ∈ M := hp.mem_iff.2 (by simp)
      have h2 := (ltF_iff hM haM hy).2 (ha y h1)
      have h3 : (a.1 : Int) ∈ wait := by rw [hw.mem_iff]; exact List.mem_map.2 ⟨a, haM, rfl⟩
      obtain ⟨k, hk, e⟩ := List.getElem_of_mem h3
      have h4 := hmin k hk
      rw [rd_getElem hk, e, ← e0, h2] at h4
      cases h4
  subst hya
  refine ⟨by rw [p2, ← e0], ?_, ?_⟩
  · have h5 : (rd wait 0 :: (popM (ltF' flat) wait).take (wait.length - 1)).Perm ((y.1 : Int) :: rest.map fun x => (x.1 : Int)) := p4.symm.trans (hw.trans (hp.map _))
    rw [← e0] at h5
    exact h5.cons_inv
  · rw [List.length_take, p1, Nat.min_eq_left (by omega)]
    exact p3
end Go.Proofs.Ytempgkglhgelkaa
