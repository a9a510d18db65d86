/-
  Plain facts: who weighs more is no deeper (no program).
-/
import Derived.Test.YtempgkglhgelkaaHuffU
namespace Go.Proofs.Ytempgkglhgelkaa

/-! ### trees with the order in which they were made -/
/-- The one is less, or as great and was made ahead. -/
def ltT (x y : Nat × HT) : Prop := x.2.wt < y.2.wt ∨ (x.2.wt = y.2.wt ∧ x.1 < y.1)
theorem ltT_trans {x y z : Nat × HT} (h : ltT x y) (k : ltT y z) : ltT x z := by unfold ltT at *; omega
theorem ltT_asymm {x y : Nat × HT} (h : ltT x y) (k : ltT y x) : False := by unfold ltT at *; omega
theorem ltT_total {x y : Nat × HT} (h : x.1 ≠ y.1) : ltT x y ∨ ltT y x := by unfold ltT; omega
abbrev Tags (L : List (Nat × HT)) (N : Nat) : Prop := L.Pairwise (fun x y => x.1 < y.1) ∧ ∀ x ∈ L, x.1 < N
def tstep (L : List (Nat × HT)) (N : Nat) : List (Nat × HT) :=
  ((L.eraseIdx (hA (L.map Prod.snd))).eraseIdx (hB (L.map Prod.snd))) ++ [(N, .node ((L.map Prod.snd).getD (hA (L.map Prod.snd)) default) (((L.map Prod.snd).eraseIdx (hA (L.map Prod.snd))).getD (hB (L.map Prod.snd)) default))]
theorem map_eraseIdx' {α β : Type} (f : α → β) : ∀ (l : List α) (i : Nat), (l.eraseIdx i).map f = (l.map f).eraseIdx i
  | [], _ => rfl
  | _ :: _, 0 => rfl
  | x :: l, i + 1 => by simp only [List.eraseIdx_cons_succ, List.map_cons, map_eraseIdx' f l i]
theorem tstep_map (L : List (Nat × HT)) (N : Nat) : (tstep L N).map Prod.snd = hstep (L.map Prod.snd) := by
  unfold tstep hstep
  rw [List.map_append, map_eraseIdx', map_eraseIdx']
  rfl
/-- The first least one is less than all others. -/
theorem least_first {L : List (Nat × HT)} (hT : L.Pairwise (fun x y => x.1 < y.1)) (h : 0 < L.length) (p : Nat) (hp : p = minPos ((L.map Prod.snd).map HT.wt)) :
    ∃ (hp : p < L.length), ∀ u ∈ L.eraseIdx p, ltT L[p] u := by
  subst hp
  obtain ⟨m1, m2, m3⟩ := minPos_spec ((L.map Prod.snd).map HT.wt) (by simpa using h)
  simp only [List.length_map] at m1 m2
  refine ⟨m1, fun u hu => ?_⟩
  have rdw : ∀ j (hj : j < L.length), rd ((L.map Prod.snd).map HT.wt) j = L[j].2.wt := by
    intro j hj
    rw [rd_getElem (by simpa using hj)]
    simp
  obtain ⟨i, hi, hne, rfl⟩ : ∃ i, ∃ hi : i < L.length, i ≠ minPos ((L.map Prod.snd).map HT.wt) ∧ L[i] = u := by
    obtain ⟨i, hi, e⟩ := List.mem_eraseIdx_iff_getElem.1 hu
    exact ⟨i, hi, e.1, e.2⟩
  have q := m2 i hi
  rw [rdw _ m1, rdw _ hi] at q
  unfold ltT
  rcases Nat.lt_trichotomy i (minPos ((L.map Prod.snd).map HT.wt)) with e | e | e
  · have q3 := m3 i e
    rw [rdw _ m1, rdw _ hi] at q3
    exact .inl q3
  · exact absurd e hne
  · have := List.pairwise_iff_getElem.1 hT (minPos ((L.map Prod.snd).map HT.wt)) i m1 hi e
    omega
theorem tstep_parts {L : List (Nat × HT)} {N : Nat} (hT : Tags L N) (h : 1 < L.length) : ∃ a b rest, L.Perm (a :: b :: rest) ∧ tstep L N = rest ++ [(N, .node a.2 b.2)] ∧ ltT a b ∧ (∀ u ∈ rest, ltT b u) ∧ Tags (tstep L N) (N + 1) := by
  obtain ⟨p1, l1⟩ := least_first hT.1 (by omega) (hA (L.map Prod.snd)) rfl
  have hl : (L.eraseIdx (hA (L.map Prod.snd))).length = L.length - 1 := List.length_eraseIdx_of_lt p1
  have hT1 : (L.eraseIdx (hA (L.map Prod.snd))).Pairwise (fun x y => x.1 < y.1) := hT.1.sublist (List.eraseIdx_sublist _ _)
  obtain ⟨p2, l2⟩ := least_first hT1 (by omega) (hB (L.map Prod.snd)) (by unfold hB; rw [map_eraseIdx', map_eraseIdx', map_eraseIdx'])
  have e1 : (L.map Prod.snd).getD (hA (L.map Prod.snd)) default = (L[hA (L.map Prod.snd)]).2 := by
    rw [List.getD_eq_getElem?_getD, List.getElem?_map, List.getElem?_eq_getElem p1]; rfl
  have e2 : ((L.map Prod.snd).eraseIdx (hA (L.map Prod.snd))).getD (hB (L.map Prod.snd)) default = ((L.eraseIdx (hA (L.map Prod.snd)))[hB (L.map Prod.snd)]).2 := by
    rw [← map_eraseIdx', List.getD_eq_getElem?_getD, List.getElem?_map, List.getElem?_eq_getElem p2]; rfl
  have hstep' : tstep L N = ((L.eraseIdx (hA (L.map Prod.snd))).eraseIdx (hB (L.map Prod.snd))) ++ [(N, .node (L[hA (L.map Prod.snd)]).2 ((L.eraseIdx (hA (L.map Prod.snd)))[hB (L.map Prod.snd)]).2)] := by
    unfold tstep
    rw [e1, e2]
  refine ⟨_, _, _, (perm_cons_erase L _ p1).trans ((perm_cons_erase _ _ p2).cons _), hstep', l1 _ (List.getElem_mem _), l2, ?_⟩
  rw [hstep']
  have hsub : ((L.eraseIdx (hA (L.map Prod.snd))).eraseIdx (hB (L.map Prod.snd))).Sublist L := (List.eraseIdx_sublist _ _).trans (List.eraseIdx_sublist _ _)
  refine ⟨List.pairwise_append.2 ⟨hT.1.sublist hsub, List.pairwise_singleton _ _, fun x hx y hy => ?_⟩, fun x hx => ?_⟩
  · simp at hy
    subst hy
    exact hT.2 x (hsub.subset hx)
  · rcases List.mem_append.1 hx with hx | hx
    · have := hT.2 x (hsub.subset hx)
      omega
    · simp at hx
      subst hx
      exact Nat.lt_succ_self _
theorem Tags.ne {L : List (Nat × HT)} {N : Nat} (hT : Tags L N) {a b : Nat × HT} {rest : List (Nat × HT)} (hp : L.Perm (a :: b :: rest)) : a.1 ≠ b.1 ∧ (∀ u ∈ rest, u.1 ≠ a.1 ∧ u.1 ≠ b.1) := by
  have h1 : L.Pairwise (fun x y => x.1 ≠ y.1) := hT.1.imp fun h => by omega
  have h2 := h1.perm hp (fun h => Ne.symm h)
  simp only [List.pairwise_cons, List.mem_cons, forall_eq_or_imp] at h2
  exact ⟨h2.1.1, fun u hu => ⟨fun e => h2.1.2 u hu e.symm, fun e => h2.2.1 u hu e.symm⟩⟩
/-- Depths in the end: of who is less no lesser ones. -/
theorem mono_run (f : Nat) : ∀ (L : List (Nat × HT)) (N : Nat), Tags L N → 0 < L.length → L.length ≤ f + 1 → (∀ x ∈ L, 0 ≤ x.2.wt) →
    ∃ root, hrun f (L.map Prod.snd) = [root] ∧ ∃ D : Nat → Nat, (∀ x ∈ L, ∀ s k, (s, k) ∈ x.2.dep → (s, k + D x.1) ∈ root.dep) ∧ (∀ x ∈ L, ∀ y ∈ L, ltT x y → D y.1 ≤ D x.1) ∧
      (∀ a ∈ L, ∀ b ∈ L, a.1 ≠ b.1 → (∀ u ∈ L, u.1 = a.1 ∨ ltT a u) → (∀ u ∈ L, u.1 = a.1 ∨ u.1 = b.1 ∨ ltT b u) → ∀ z ∈ L, z.2.wt ≤ a.2.wt + b.2.wt → D a.1 ≤ D z.1 + 1) := by
  have one : ∀ (L : List (Nat × HT)) (f : Nat), L.length = 1 → ∃ root, hrun f (L.map Prod.snd) = [root] ∧ ∃ D : Nat → Nat, (∀ x ∈ L, ∀ s k, (s, k) ∈ x.2.dep → (s, k + D x.1) ∈ root.dep) ∧ (∀ x ∈ L, ∀ y ∈ L, ltT x y → D y.1 ≤ D x.1) ∧
      (∀ a ∈ L, ∀ b ∈ L, a.1 ≠ b.1 → (∀ u ∈ L, u.1 = a.1 ∨ ltT a u) → (∀ u ∈ L, u.1 = a.1 ∨ u.1 = b.1 ∨ ltT b u) → ∀ z ∈ L, z.2.wt ≤ a.2.wt + b.2.wt → D a.1 ≤ D z.1 + 1) := by
    intro L f hl
    obtain ⟨x, rfl⟩ := List.length_eq_one_iff.1 hl
    refine ⟨x.2, ?_, fun _ => 0, ?_, fun _ _ _ _ _ => Nat.le_refl _, fun _ _ _ _ _ _ _ _ _ _ => Nat.zero_le _⟩
    · cases f with
      | zero => rfl
      | succ f => unfold hrun; rw [if_pos (by simp)]; rfl
    · intro y hy s k h
      simp at hy
      subst hy
      exact h
  induction f with
  | zero =>
    intro L N _ h0 h1 _
    exact one L 0 (by omega)
  | succ f ih =>
    intro L N hT h0 h1 hw
    by_cases hlen : L.length = 1
    · exact one L _ hlen
    · obtain ⟨a, b, rest, hp, he, hab, hbr, hT'⟩ := tstep_parts hT (by omega)
      obtain ⟨nab, nr⟩ := hT.ne hp
      have hlp : (tstep L N).length + 1 = L.length := by
        rw [he, hp.length_eq]
        simp
      have wa : 0 ≤ a.2.wt := hw a (hp.mem_iff.2 (by simp))
      have wb : 0 ≤ b.2.wt := hw b (hp.mem_iff.2 (by simp))
      have wab : a.2.wt ≤ b.2.wt := by unfold ltT at hab; omega
      have hwr : ∀ u ∈ rest, b.2.wt ≤ u.2.wt := fun u hu => by have := hbr u hu; unfold ltT at this; omega
      have hNr : ∀ u ∈ rest, u.1 < N := fun u hu => hT.2 u (hp.mem_iff.2 (by simp [hu]))
      have hmem : ∀ x, x ∈ tstep L N ↔ x ∈ rest ∨ x = (N, .node a.2 b.2) := fun x => by rw [he]; simp
      have wn : (HT.node a.2 b.2).wt = a.2.wt + b.2.wt := rfl
      have hw' : ∀ x ∈ tstep L N, b.2.wt ≤ x.2.wt := by
        intro x hx
        rcases (hmem x).1 hx with hx | rfl
        · exact hwr x hx
        · show b.2.wt ≤ (HT.node a.2 b.2).wt
          omega
      obtain ⟨root, hroot, D', hd, hP, hQ⟩ := ih (tstep L N) (N + 1) hT' (by omega) (by omega) (fun x hx => by have := hw' x hx; omega)
      have hn : ((N, .node a.2 b.2) : Nat × HT) ∈ tstep L N := (hmem _).2 (.inr rfl)
      have hr' : ∀ u ∈ rest, u ∈ tstep L N := fun u hu => (hmem u).2 (.inl hu)
      have hin : ∀ x, x ∈ L ↔ x = a ∨ x = b ∨ x ∈ rest := fun x => by rw [hp.mem_iff]; simp
      -- no other is deeper than one more than the new one
      have key : ∀ y ∈ rest, D' y.1 ≤ D' N + 1 := by
        intro y hy
        have hl2 : 1 < (tstep L N).length := by
          have : 0 < rest.length := List.length_pos_of_mem hy
          rw [he]; simp; omega
        obtain ⟨a', b', rest', hp', _, hab', hbr', _⟩ := tstep_parts hT' hl2
        obtain ⟨nab', nr'⟩ := hT'.ne hp'
        have ha' : a' ∈ tstep L N := hp'.mem_iff.2 (by simp)
        have hb' : b' ∈ tstep L N := hp'.mem_iff.2 (by simp)
        have hmin1 : ∀ u ∈ tstep L N, u.1 = a'.1 ∨ ltT a' u := by
          intro u hu
          rcases List.mem_cons.1 (hp'.mem_iff.1 hu) with rfl | hu
          · exact .inl rfl
          · rcases List.mem_cons.1 hu with rfl | hu
            · exact .inr hab'
            · exact .inr (ltT_trans hab' (hbr' u hu))
        have hmin2 : ∀ u ∈ tstep L N, u.1 = a'.1 ∨ u.1 = b'.1 ∨ ltT b' u := by
          intro u hu
          rcases List.mem_cons.1 (hp'.mem_iff.1 hu) with rfl | hu
          · exact .inl rfl
          · rcases List.mem_cons.1 hu with rfl | hu
            · exact .inr (.inl rfl)
            · exact .inr (.inr (hbr' u hu))
        have h1 : D' y.1 ≤ D' a'.1 := by
          rcases hmin1 y (hr' y hy) with e | e
          · rw [e]; exact Nat.le_refl _
          · exact hP _ ha' _ (hr' y hy) e
        have h2 := hQ a' ha' b' hb' nab' hmin1 hmin2 _ hn (by
          have := hw' a' ha'
          have := hw' b' hb'
          show (HT.node a.2 b.2).wt ≤ _
          omega)
        exact Nat.le_trans h1 h2
      refine ⟨root, ?_, fun t => if t = a.1 ∨ t = b.1 then D' N + 1 else D' t, ?_, ?_, ?_⟩
      · unfold hrun
        rw [if_neg (by simp; omega), ← tstep_map L N]
        exact hroot
      · intro x hx s k hk
        rcases (hin x).1 hx with rfl | rfl | hx
        · simp only [true_or, if_true]
          have := hd _ hn s (k + 1) (by simp only [HT.dep, List.mem_map, List.mem_append]; exact ⟨(s, k), .inl hk, rfl⟩)
          rwa [show k + 1 + D' N = k + (D' N + 1) from by omega] at this
        · simp only [or_true, if_true]
          have := hd _ hn s (k + 1) (by simp only [HT.dep, List.mem_map, List.mem_append]; exact ⟨(s, k), .inr hk, rfl⟩)
          rwa [show k + 1 + D' N = k + (D' N + 1) from by omega] at this
        · obtain ⟨n1, n2⟩ := nr x hx
          simp only [if_neg (show ¬ (x.1 = a.1 ∨ x.1 = b.1) by simp [n1, n2])]
          exact hd x (hr' x hx) s k hk
      · intro x hx y hy hxy
        rcases (hin y).1 hy with rfl | rfl | hy
        · rcases (hin x).1 hx with rfl | rfl | hx
          · exact Nat.le_refl _
          · exact (ltT_asymm hxy hab).elim
          · exact (ltT_asymm hxy (ltT_trans hab (hbr x hx))).elim
        · rcases (hin x).1 hx with rfl | rfl | hx
          · simp
          · exact Nat.le_refl _
          · exact (ltT_asymm hxy (hbr x hx)).elim
        · obtain ⟨n1, n2⟩ := nr y hy
          simp only [if_neg (show ¬ (y.1 = a.1 ∨ y.1 = b.1) by simp [n1, n2])]
          rcases (hin x).1 hx with rfl | rfl | hx
          · simp only [true_or, if_true]
            exact key y hy
          · simp only [or_true, if_true]
            exact key y hy
          · obtain ⟨n3, n4⟩ := nr x hx
            simp only [if_neg (show ¬ (x.1 = a.1 ∨ x.1 = b.1) by simp [n3, n4])]
            exact hP _ (hr' x hx) _ (hr' y hy) hxy
      · intro a1 ha1 b1 hb1 hne m1 m2 z hz hwz
        have ea : a1 = a := by
          rcases (hin a1).1 ha1 with e | e | e
          · exact e
          · rcases m1 a ((hin a).2 (.inl rfl)) with h | h
            · rw [e] at h; exact absurd h nab
            · rw [e] at h; exact (ltT_asymm h hab).elim
          · rcases m1 a ((hin a).2 (.inl rfl)) with h | h
            · exact absurd h.symm (nr a1 e).1
            · exact (ltT_asymm h (ltT_trans hab (hbr a1 e))).elim
        subst ea
        have eb : b1 = b := by
          rcases (hin b1).1 hb1 with e | e | e
          · rw [e] at hne; exact absurd rfl hne
          · exact e
          · rcases m2 b ((hin b).2 (.inr (.inl rfl))) with h | h | h
            · exact absurd h.symm nab
            · exact absurd h.symm (nr b1 e).2
            · exact (ltT_asymm h (hbr b1 e)).elim
        subst eb
        simp only [true_or, if_true]
        rcases (hin z).1 hz with rfl | rfl | hz
        · simp
        · simp
        · obtain ⟨n1, n2⟩ := nr z hz
          simp only [if_neg (show ¬ (z.1 = a1.1 ∨ z.1 = b1.1) by simp [n1, n2])]
          have := hP z (hr' z hz) _ hn (by
            unfold ltT
            have := hNr z hz
            show z.2.wt < (HT.node a1.2 b1.2).wt ∨ (z.2.wt = (HT.node a1.2 b1.2).wt ∧ z.1 < N)
            omega)
          simp only at this
          omega
end Go.Proofs.Ytempgkglhgelkaa
