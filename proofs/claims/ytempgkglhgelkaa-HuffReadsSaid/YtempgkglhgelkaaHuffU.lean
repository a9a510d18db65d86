/-
  Plain facts: depths in trees of symbols; weights halved (no program).
-/
import Derived.Test.YtempgkglhgelkaaHuffT
namespace Go.Proofs.Ytempgkglhgelkaa

theorem lookup_mem : ∀ {l : List (Nat × Nat)} (_ : (l.map Prod.fst).Nodup) (s k : Nat), l.lookup s = some k ↔ (s, k) ∈ l
  | [], _, s, k => by simp
  | (a, b) :: l, h, s, k => by
    have hn : (l.map Prod.fst).Nodup := (List.nodup_cons.1 h).2
    have ha : a ∉ l.map Prod.fst := (List.nodup_cons.1 h).1
    rw [List.lookup_cons]
    by_cases e : s = a
    · subst e
      simp only [BEq.rfl, List.mem_cons, Prod.mk.injEq, true_and]
      constructor
      · intro hk; exact .inl (Option.some.inj hk).symm
      · rintro (hk | hk)
        · rw [hk]
        · exact absurd (List.mem_map.2 ⟨_, hk, rfl⟩) ha
    · have : (s == a) = false := by simpa using e
      rw [this]
      simp only [List.mem_cons, Prod.mk.injEq]
      rw [lookup_mem hn]
      simp [e]
theorem lookup_none : ∀ {l : List (Nat × Nat)} (s : Nat), l.lookup s = none ↔ s ∉ l.map Prod.fst
  | [], s => by simp
  | (a, b) :: l, s => by
    rw [List.lookup_cons]
    by_cases e : s = a
    · subst e; simp
    · have : (s == a) = false := by simpa using e
      rw [this]
      show List.lookup s l = none ↔ _
      rw [lookup_none s]
      simp [e]
theorem flat_dep_syms (L : List HT) : (L.flatMap HT.dep).map Prod.fst = L.flatMap HT.syms := by
  induction L with
  | nil => rfl
  | cons t L ih => simp only [List.flatMap_cons, List.map_append, HT.dep_syms, ih]
theorem hstep_syms {L : List HT} (h : 1 < L.length) : ((hstep L).flatMap HT.syms).Perm (L.flatMap HT.syms) := by
  obtain ⟨a, b, rest, hp, he, _⟩ := hstep_parts h
  rw [he]
  refine List.Perm.trans ?_ (hp.flatMap_right HT.syms).symm
  simp only [List.flatMap_append, List.flatMap_cons, List.flatMap_nil, HT.syms, List.append_nil]
  rw [← List.append_assoc a.syms]
  exact List.perm_append_comm
theorem hrun_inv {P : List HT → Prop} (hs : ∀ L, 1 < L.length → P L → P (hstep L)) : ∀ (f : Nat) (L : List HT), P L → P (hrun f L)
  | 0, L, h => h
  | f + 1, L, h => by
    unfold hrun
    split
    · exact h
    · exact hrun_inv hs f _ (hs L (by omega) h)
theorem hrun_syms (f : Nat) (L : List HT) : ((hrun f L).flatMap HT.syms).Perm (L.flatMap HT.syms) :=
  hrun_inv (P := fun M => (M.flatMap HT.syms).Perm (L.flatMap HT.syms)) (fun _ h1 h => (hstep_syms h1).trans h) f L (List.Perm.refl _)
def posTo (ws : List Int) (k : Nat) : List Nat := (List.range k).filter fun s => decide (0 < rd ws s)
theorem leavesTo_syms (ws : List Int) (k : Nat) : (leavesTo ws k).flatMap HT.syms = posTo ws k := by
  unfold leavesTo posTo
  generalize (List.range k).filter _ = l
  induction l with
  | nil => rfl
  | cons x l ih => simp only [List.map_cons, List.flatMap_cons, ih, HT.syms]; rfl
theorem posTo_nodup (ws : List Int) (k : Nat) : (posTo ws k).Nodup := List.Nodup.sublist List.filter_sublist List.nodup_range
theorem mem_posTo {ws : List Int} {k s : Nat} : s ∈ posTo ws k ↔ s < k ∧ 0 < rd ws s := by simp [posTo]
theorem rootOf_syms (ws : List Int) : ((rootOf ws).flatMap HT.syms).Perm (posTo ws ws.length) := by
  have h := hrun_syms (leavesOf ws).length (leavesOf ws)
  rw [show leavesOf ws = leavesTo ws ws.length from rfl, leavesTo_syms] at h
  exact h
theorem rootOf_nodup (ws : List Int) : ((rootOf ws).flatMap HT.syms).Nodup := (rootOf_syms ws).nodup_iff.2 (posTo_nodup ws _)
theorem depIn_mem {L : List HT} (h : (L.flatMap HT.syms).Nodup) (s k : Nat) : depIn L s = some k ↔ (s, k) ∈ L.flatMap HT.dep := by
  unfold depIn
  exact lookup_mem (by rw [flat_dep_syms]; exact h) s k
theorem depIn_none {L : List HT} (s : Nat) : depIn L s = none ↔ s ∉ L.flatMap HT.syms := by
  unfold depIn
  rw [lookup_none, flat_dep_syms]
theorem depIn_step {L : List HT} (h1 : 1 < L.length) (hn : (L.flatMap HT.syms).Nodup) {a b : HT} {rest : List HT} (hp : L.Perm (a :: b :: rest)) (he : hstep L = rest ++ [.node a b]) (s : Nat) :
    depIn (hstep L) s = if s ∈ a.syms ++ b.syms then (depIn L s).map (· + 1) else depIn L s := by
  have hn' : ((hstep L).flatMap HT.syms).Nodup := (hstep_syms h1).nodup_iff.2 hn
  have hnp : ((a :: b :: rest).flatMap HT.syms).Nodup := (hp.flatMap_right HT.syms).nodup_iff.1 hn
  have hpd : ∀ x, x ∈ L.flatMap HT.dep ↔ x ∈ (a :: b :: rest).flatMap HT.dep := fun x => (hp.flatMap_right HT.dep).mem_iff
  have hps : ∀ x, x ∈ L.flatMap HT.syms ↔ x ∈ (a :: b :: rest).flatMap HT.syms := fun x => (hp.flatMap_right HT.syms).mem_iff
  have hmem : ∀ (t : HT) (x k : Nat), (x, k) ∈ t.dep → x ∈ t.syms := fun t x k hx => by
    rw [← HT.dep_syms]
    exact List.mem_map.2 ⟨_, hx, rfl⟩
  by_cases hs : s ∈ a.syms ++ b.syms
  · rw [if_pos hs]
    have hsL : s ∈ L.flatMap HT.syms := by
      rw [hps]
      simp only [List.flatMap_cons, List.mem_append] at hs ⊢
      rcases hs with h | h
      · exact .inl h
      · exact .inr (.inl h)
    obtain ⟨k, hk⟩ : ∃ k, depIn L s = some k := by
      cases e : depIn L s with
      | none => exact absurd hsL ((depIn_none s).1 e)
      | some k => exact ⟨k, rfl⟩
    rw [hk, Option.map_some, depIn_mem hn', he]
    rw [depIn_mem hn, hpd] at hk
    simp only [List.flatMap_cons, List.mem_append] at hk
    simp only [List.flatMap_append, List.flatMap_cons, List.flatMap_nil, List.append_nil, List.mem_append, HT.dep, List.mem_map, Prod.mk.injEq, Prod.exists]
    have hdis : ∀ t ∈ rest, s ∉ t.syms := by
      intro t ht hst
      simp only [List.flatMap_cons] at hnp
      rw [← List.append_assoc] at hnp
      exact (List.nodup_append.1 hnp).2.2 s hs s (List.mem_flatMap.2 ⟨t, ht, hst⟩) rfl
    rcases hk with hk | hk | hk
    · exact .inr ⟨s, k, .inl hk, rfl, rfl⟩
    · exact .inr ⟨s, k, .inr hk, rfl, rfl⟩
    · obtain ⟨t, ht, hkt⟩ := List.mem_flatMap.1 hk
      exact absurd (hmem t s k hkt) (hdis t ht)
  · rw [if_neg hs]
    cases e : depIn L s with
    | none =>
      rw [depIn_none] at e ⊢
      intro h
      exact e (((hstep_syms h1).mem_iff).1 h)
    | some k =>
      rw [depIn_mem hn, hpd] at e
      rw [depIn_mem hn', he]
      simp only [List.flatMap_cons, List.mem_append] at e
      simp only [List.flatMap_append, List.mem_append]
      rcases e with e | e | e
      · exact absurd (List.mem_append.2 (.inl (hmem a s k e))) hs
      · exact absurd (List.mem_append.2 (.inr (hmem b s k e))) hs
      · exact .inl e
/-! ### few equal weights: no great depth -/
def HT.low (t : HT) (d : Nat) : Prop := ∀ p ∈ t.dep, p.2 ≤ d
theorem HT.low_node {a b : HT} {d : Nat} (ha : a.low d) (hb : b.low d) : (HT.node a b).low (d + 1) := by
  intro p hp
  simp only [HT.dep, List.mem_map, List.mem_append] at hp
  obtain ⟨q, hq, rfl⟩ := hp
  rcases hq with hq | hq
  · have := ha q hq; simp; omega
  · have := hb q hq; simp; omega
theorem HT.low_mono {a : HT} {d e : Nat} (ha : a.low d) (h : d ≤ e) : a.low e := fun p hp => Nat.le_trans (ha p hp) h
def insideB (k : Nat) (t : HT) : Prop := 2 ^ k < t.wt ∧ t.wt < 2 ^ (k + 1)
structure EqW (k : Nat) (L : List HT) : Prop where
  rng : ∀ t ∈ L, 2 ^ k ≤ t.wt ∧ t.wt ≤ 2 ^ (k + 1) ∧ (t.wt = 2 ^ k → t.low k) ∧ t.low (k + 1)
  one : L.Pairwise fun t u => ¬ (insideB k t ∧ insideB k u)
theorem EqW.perm {k : Nat} {L M : List HT} (h : EqW k L) (hp : L.Perm M) : EqW k M :=
  ⟨fun t ht => h.rng t (hp.mem_iff.2 ht), h.one.perm hp (fun h1 h2 => h1 ⟨h2.2, h2.1⟩)⟩
theorem pow2_succ (k : Nat) : (2 : Int) ^ (k + 1) = 2 * 2 ^ k := by rw [Int.pow_succ, Int.mul_comm]
theorem pow2_pos (k : Nat) : (0 : Int) < 2 ^ k := Int.pow_pos (by omega)
theorem EqW.step {k : Nat} {L : List HT} (h : EqW k L) (h1 : 1 < L.length) : ∃ k', EqW k' (hstep L) := by
  obtain ⟨a, b, rest, hp, he, _, _, _, hab, hrest⟩ := hstep_parts h1
  have hq := h.perm hp
  rw [he]
  obtain ⟨a1, a2, a3, a4⟩ := hq.rng a (by simp)
  obtain ⟨b1, b2, b3, b4⟩ := hq.rng b (by simp)
  have hr := fun t (ht : t ∈ rest) => hq.rng t (by simp [ht])
  have ho := hq.one
  simp only [List.pairwise_cons, List.mem_cons, forall_eq_or_imp] at ho
  obtain ⟨⟨oab, oar⟩, obr, orr⟩ := ho
  have e1 := pow2_succ k
  have e2 := pow2_succ (k + 1)
  have e0 := pow2_pos k
  have wn : (HT.node a b).wt = a.wt + b.wt := rfl
  have hperm : (rest ++ [HT.node a b]).Perm (HT.node a b :: rest) := List.perm_append_comm
  by_cases hb : b.wt = 2 ^ k
  · have ha : a.wt = 2 ^ k := by omega
    refine ⟨k, EqW.perm ⟨?_, ?_⟩ hperm.symm⟩
    · intro t ht
      rcases List.mem_cons.1 ht with rfl | ht
      · refine ⟨by omega, by omega, fun h => by omega, HT.low_node (a3 ha) (b3 hb)⟩
      · exact hr t ht
    · rw [List.pairwise_cons]
      refine ⟨fun u _ hh => ?_, orr⟩
      have := hh.1.2
      omega
  · -- all others are 2^(k+1)
    have hall : ∀ t ∈ rest, t.wt = 2 ^ (k + 1) := by
      intro t ht
      have q1 := hrest t ht
      obtain ⟨t1, t2, _, _⟩ := hr t ht
      by_cases hb2 : b.wt = 2 ^ (k + 1)
      · omega
      · have hbi : insideB k b := ⟨by omega, by omega⟩
        have := obr t ht
        rcases Int.lt_or_le t.wt (2 ^ (k + 1)) with h3 | h3
        · exact absurd ⟨hbi, ⟨by omega, h3⟩⟩ this
        · omega
    refine ⟨k + 1, EqW.perm ⟨?_, ?_⟩ hperm.symm⟩
    · intro t ht
      rcases List.mem_cons.1 ht with rfl | ht
      · refine ⟨?_, by omega, fun h => ?_, HT.low_node a4 b4⟩
        · omega
        · exfalso
          omega
      · obtain ⟨t1, t2, _, t4⟩ := hr t ht
        have := hall t ht
        exact ⟨by omega, by omega, fun _ => t4, HT.low_mono t4 (by omega)⟩
    · rw [List.pairwise_cons]
      refine ⟨fun u hu hh => ?_, orr.imp_of_mem fun hx hy _ hh => ?_⟩
      · have := hall u hu
        have := hh.2.1
        omega
      · have := hall _ hx
        have := hh.1.1
        omega

theorem EqW.run : ∀ (f : Nat) {k : Nat} {L : List HT}, EqW k L → ∃ k', EqW k' (hrun f L)
  | 0, k, L, h => ⟨k, h⟩
  | f + 1, k, L, h => by
    unfold hrun
    split
    · exact ⟨k, h⟩
    · obtain ⟨k', h'⟩ := h.step (by omega)
      exact EqW.run f h'
def sumW (L : List HT) : Int := (L.map HT.wt).sum
theorem sumW_perm {L M : List HT} (h : L.Perm M) : sumW L = sumW M := by
  unfold sumW
  induction h with
  | nil => rfl
  | cons x _ ih => simp only [List.map_cons, List.sum_cons, ih]
  | swap x y l => simp only [List.map_cons, List.sum_cons]; omega
  | trans _ _ h1 h2 => exact h1.trans h2
theorem sumW_step {L : List HT} (h1 : 1 < L.length) : sumW (hstep L) = sumW L := by
  obtain ⟨a, b, rest, hp, he, _⟩ := hstep_parts h1
  rw [he, sumW_perm hp, sumW_perm (List.perm_append_comm : (rest ++ [HT.node a b]).Perm _)]
  simp only [sumW, List.cons_append, List.nil_append, List.map_cons, List.sum_cons, HT.wt]
  omega
theorem sumW_run (f : Nat) (L : List HT) : sumW (hrun f L) = sumW L := hrun_inv (P := fun M => sumW M = sumW L) (fun _ h1 h => (sumW_step h1).trans h) f L rfl
theorem mem_leavesTo {ws : List Int} {k : Nat} {t : HT} (h : t ∈ leavesTo ws k) : ∃ s, s < k ∧ 0 < rd ws s ∧ t = .leaf (rd ws s) s := by
  unfold leavesTo at h
  obtain ⟨s, hs, rfl⟩ := List.mem_map.1 h
  simp at hs
  exact ⟨s, hs.1, hs.2, rfl⟩
theorem leavesOf_length (ws : List Int) : (leavesOf ws).length = (posTo ws ws.length).length := by
  unfold leavesOf leavesTo posTo
  simp
theorem sum_ones : ∀ L : List HT, (∀ t ∈ L, t.wt = 1) → sumW L = L.length
  | [], _ => by simp [sumW]
  | t :: L, h => by
    have h1 := sum_ones L (fun u hu => h u (by simp [hu]))
    have h2 := h t (by simp)
    unfold sumW at h1 ⊢
    simp only [List.map_cons, List.sum_cons, List.length_cons, h1, h2]
    omega
/-- No weight above 1, no more symbols than 2^most: lengths within most. -/
theorem onceM_ones (ws : List Int) (most : Nat) (h1 : ∀ s, s < ws.length → rd ws s ≤ 1) (hm : 1 ≤ most) (hn : (posTo ws ws.length).length ≤ 2 ^ most) : ∀ x ∈ onceM ws, x ≤ (most : Int) := by
  intro x hx
  unfold onceM at hx
  obtain ⟨s, hs, rfl⟩ := List.mem_map.1 hx
  cases e : depIn (rootOf ws) s with
  | none => simp
  | some k =>
    simp only
    have hk := (depIn_mem (rootOf_nodup ws) s k).1 e
    obtain ⟨t, ht, hkt⟩ := List.mem_flatMap.1 hk
    have hall : ∀ u ∈ leavesOf ws, u.wt = 1 := by
      intro u hu
      obtain ⟨s', q1, q2, rfl⟩ := mem_leavesTo hu
      have := h1 s' q1
      show rd ws s' = 1
      omega
    have hlow : ∀ u ∈ leavesOf ws, u.low 0 := by
      intro u hu
      obtain ⟨s', q1, q2, rfl⟩ := mem_leavesTo hu
      intro p hp
      simp [HT.dep] at hp
      rw [hp]
      exact Nat.le_refl _
    have hE : EqW 0 (leavesOf ws) := by
      refine ⟨fun u hu => ?_, List.pairwise_of_forall_mem_list fun u hu v hv hh => ?_⟩
      · have := hall u hu
        have := hlow u hu
        exact ⟨by simp; omega, by simp; omega, fun _ => this, HT.low_mono this (by omega)⟩
      · have := hall u hu
        have := hh.1.1
        simp at this
        omega
    obtain ⟨k', hR⟩ := EqW.run (leavesOf ws).length hE
    have hR' : EqW k' (rootOf ws) := hR
    have hpos : 0 < (leavesOf ws).length := by
      rcases Nat.eq_zero_or_pos (leavesOf ws).length with h0 | h0
      · have : leavesOf ws = [] := List.length_eq_zero_iff.1 h0
        unfold rootOf at ht
        rw [this] at ht
        simp [hrun] at ht
      · exact h0
    have hlen : (rootOf ws).length = 1 := hrun_length _ _ hpos (by omega)
    obtain ⟨r, hr⟩ : ∃ r, rootOf ws = [r] := List.length_eq_one_iff.1 hlen
    have hsum : r.wt = ((leavesOf ws).length : Int) := by
      have h2 : sumW (rootOf ws) = sumW (leavesOf ws) := sumW_run _ _
      rw [hr, sum_ones _ hall] at h2
      simpa [sumW] using h2
    rw [hr] at ht hR'
    simp at ht
    subst ht
    obtain ⟨g1, g2, g3, g4⟩ := hR'.rng t (by simp)
    rw [leavesOf_length] at hsum
    have hcast : ((2 ^ most : Nat) : Int) = (2 : Int) ^ most := by simp
    have hk2 : k ≤ most := by
      by_cases e1 : t.wt = 2 ^ k'
      · have h5 := (g3 e1) (s, k) hkt
        simp at h5
        have : k' ≤ most := by
          rcases Nat.lt_or_ge most k' with h6 | h6
          · have : (2 : Nat) ^ most < 2 ^ k' := Nat.pow_lt_pow_right (by omega) h6
            have : ((2 ^ most : Nat) : Int) < ((2 ^ k' : Nat) : Int) := by exact_mod_cast this
            have h7 : ((2 ^ k' : Nat) : Int) = (2 : Int) ^ k' := by simp
            omega
          · exact h6
        omega
      · have h5 := g4 (s, k) hkt
        simp at h5
        have : k' < most := by
          rcases Nat.lt_or_ge k' most with h6 | h6
          · exact h6
          · have : (2 : Nat) ^ most ≤ 2 ^ k' := Nat.pow_le_pow_right (by omega) h6
            have : ((2 ^ most : Nat) : Int) ≤ ((2 ^ k' : Nat) : Int) := by exact_mod_cast this
            have h7 : ((2 ^ k' : Nat) : Int) = (2 : Int) ^ k' := by simp
            omega
        omega
    omega
/-! ### weights halved till lengths fit -/
def lensM : Nat → Nat → List Int → List Int
  | 0, _, ws => onceM ws
  | f + 1, most, ws => if (onceM ws).all (fun x => decide (x ≤ (most : Int))) = true then onceM ws else lensM f most (halve ws)
def lensOf (most : Nat) (ws : List Int) : List Int := lensM ws.sum.toNat most ws
theorem halve_length (ws : List Int) : (halve ws).length = ws.length := by simp [halve]
theorem rd_halve (ws : List Int) (s : Nat) : rd (halve ws) s = (rd ws s + 1) / 2 := by
  unfold rd halve
  simp only [List.getD_eq_getElem?_getD, List.getElem?_map]
  cases ws[s]? <;> simp
theorem sum_halve : ∀ ws : List Int, (∀ x ∈ ws, 0 ≤ x) → 0 ≤ (halve ws).sum ∧ (halve ws).sum ≤ ws.sum ∧ ((∃ x ∈ ws, 2 ≤ x) → (halve ws).sum < ws.sum)
  | [], _ => by simp [halve]
  | x :: ws, h => by
    obtain ⟨h1, h2, h3⟩ := sum_halve ws (fun y hy => h y (by simp [hy]))
    have hx := h x (by simp)
    unfold halve at *
    simp only [List.map_cons, List.sum_cons]
    refine ⟨by omega, by omega, ?_⟩
    rintro ⟨y, hy, hy2⟩
    rcases List.mem_cons.1 hy with rfl | hy
    · omega
    · have := h3 ⟨y, hy, hy2⟩
      omega
theorem sum_nonneg' : ∀ ws : List Int, (∀ x ∈ ws, 0 ≤ x) → 0 ≤ ws.sum
  | [], _ => by simp
  | x :: ws, h => by
    have := sum_nonneg' ws (fun y hy => h y (by simp [hy]))
    have := h x (by simp)
    simp only [List.sum_cons]
    omega
theorem halve_nonneg {ws : List Int} (h : ∀ x ∈ ws, 0 ≤ x) : ∀ x ∈ halve ws, 0 ≤ x := by
  intro x hx
  obtain ⟨y, hy, rfl⟩ := List.mem_map.1 hx
  have := h y hy
  omega
theorem posTo_halve (ws : List Int) (k : Nat) : posTo (halve ws) k = posTo ws k := by
  unfold posTo
  congr 1
  funext s
  rw [rd_halve]
  congr 1
  apply propext
  omega
/-- Where some length does not fit, halving lessens the sum. -/
theorem halve_less {ws : List Int} {most : Nat} (h : ∀ x ∈ ws, 0 ≤ x) (hm : 1 ≤ most) (hn : (posTo ws ws.length).length ≤ 2 ^ most) (hno : ¬ (onceM ws).all (fun x => decide (x ≤ (most : Int))) = true) : (halve ws).sum < ws.sum := by
  apply (sum_halve ws h).2.2
  apply Classical.byContradiction
  intro hc
  apply hno
  rw [List.all_eq_true]
  intro x hx
  simp
  refine onceM_ones ws most (fun s hs => ?_) hm hn x hx
  rw [rd_getElem hs]
  rcases Int.lt_or_le 1 ws[s] with h2 | h2
  · exact absurd ⟨_, List.getElem_mem hs, by omega⟩ hc
  · exact h2
end Go.Proofs.Ytempgkglhgelkaa
