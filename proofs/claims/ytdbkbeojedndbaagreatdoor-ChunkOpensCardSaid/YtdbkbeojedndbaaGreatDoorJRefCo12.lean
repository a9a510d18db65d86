/-
  Texts joined into one file: HuffU, HuffV, HeapP, HuffY.
-/
import Derived.Test.YtdbkbeojedndbaaGreatDoorJRefCo11
import Derived.Test.YtdbkbeojedndbaaGreatDoorJRefCo1
namespace Go.Proofs.YtdbkbeojedndbaaGreatDoor

theorem lookup_mem : ∀ {l : List (Nat × Nat)} (_ : (l.map Prod.fst).Nodup) (s k : Nat), l.lookup s = some k ↔ (s, k) ∈ l
 | [], _, s, k => by simp
 | (a, b) :: l, h, s, k => by
  have hn : (l.map Prod.fst).Nodup := (List.nodup_cons.1 h).2
  have ha : a ∉ l.map Prod.fst := (List.nodup_cons.1 h).1
  rw [List.lookup_cons]
  by_cases e : s = a
  ·subst e
   simp only [BEq.rfl, List.mem_cons, Prod.mk.injEq, true_and]
   constructor
   ·intro hk; exact .inl (Option.some.inj hk).symm
   ·rintro (hk | hk)
    ·rw [hk]
    ·exact absurd (List.mem_map.2 ⟨_, hk, rfl⟩) ha
  ·have : (s == a) = false := by simpa using e
   rw [this]
   simp only [List.mem_cons, Prod.mk.injEq]
   rw [lookup_mem hn]
   simp [e]
theorem lookup_none : ∀ {l : List (Nat × Nat)} (s : Nat), l.lookup s = none ↔ s ∉ l.map Prod.fst
 | [], s => by simp
 | (a, b) :: l, s => by
  rw [List.lookup_cons]
  by_cases e : s = a
  ·subst e; simp
  ·have : (s == a) = false := by simpa using e
   rw [this]
   show List.lookup s l = none ↔ _
   rw [lookup_none s]
   simp [e]
theorem flat_dep_syms (L : List HT) : (L.flatMap HT.dep).map Prod.fst = L.flatMap HT.syms := by
 induction L with
 | nil => rfl
 | cons t L ih => simp only [List.flatMap_cons, List.map_append, HT.dep_syms, ih]
theorem hstep_syms {L : List HT} (h : 1 < L.length) : ((hstep L).flatMap HT.syms).Perm (L.flatMap HT.syms) := by
 obtain ⟨a, b, rest, hp, he, _⟩ := hstep_parts h
 rw [he]
 refine List.Perm.trans ?_ (hp.flatMap_right HT.syms).symm
 simp only [List.flatMap_append, List.flatMap_cons, List.flatMap_nil, HT.syms, List.append_nil]
 rw [← List.append_assoc a.syms]
 exact List.perm_append_comm
theorem hrun_inv {P : List HT → Prop} (hs : ∀ L, 1 < L.length → P L → P (hstep L)) : ∀ (f : Nat) (L : List HT), P L → P (hrun f L)
 | 0, L, h => h
 | f + 1, L, h => by
  unfold hrun
  split
  ·exact h
  ·exact hrun_inv hs f _ (hs L (by omega) h)
theorem hrun_syms (f : Nat) (L : List HT) : ((hrun f L).flatMap HT.syms).Perm (L.flatMap HT.syms) :=
 hrun_inv (P := fun M => (M.flatMap HT.syms).Perm (L.flatMap HT.syms)) (fun _ h1 h => (hstep_syms h1).trans h) f L (List.Perm.refl _)
def posTo (ws : List Int) (k : Nat) : List Nat := (List.range k).filter fun s => decide (0 < rd ws s)
theorem leavesTo_syms (ws : List Int) (k : Nat) : (leavesTo ws k).flatMap HT.syms = posTo ws k := by
 unfold leavesTo posTo
 generalize (List.range k).filter _ = l
 induction l with
 | nil => rfl
 | cons x l ih => simp only [List.map_cons, List.flatMap_cons, ih, HT.syms]; rfl
theorem posTo_nodup (ws : List Int) (k : Nat) : (posTo ws k).Nodup := List.Nodup.sublist List.filter_sublist List.nodup_range
theorem mem_posTo {ws : List Int} {k s : Nat} : s ∈ posTo ws k ↔ s < k ∧ 0 < rd ws s := by simp [posTo]
theorem rootOf_syms (ws : List Int) : ((rootOf ws).flatMap HT.syms).Perm (posTo ws ws.length) := by
 have h := hrun_syms (leavesOf ws).length (leavesOf ws)
 rw [show leavesOf ws = leavesTo ws ws.length from rfl, leavesTo_syms] at h
 exact h
theorem rootOf_nodup (ws : List Int) : ((rootOf ws).flatMap HT.syms).Nodup := (rootOf_syms ws).nodup_iff.2 (posTo_nodup ws _)
theorem depIn_mem {L : List HT} (h : (L.flatMap HT.syms).Nodup) (s k : Nat) : depIn L s = some k ↔ (s, k) ∈ L.flatMap HT.dep := by
 unfold depIn
 exact lookup_mem (by rw [flat_dep_syms]; exact h) s k
theorem depIn_none {L : List HT} (s : Nat) : depIn L s = none ↔ s ∉ L.flatMap HT.syms := by
 unfold depIn
 rw [lookup_none, flat_dep_syms]
theorem depIn_step {L : List HT} (h1 : 1 < L.length) (hn : (L.flatMap HT.syms).Nodup) {a b : HT} {rest : List HT} (hp : L.Perm (a :: b :: rest)) (he : hstep L = rest ++ [.node a b]) (s : Nat) :
  depIn (hstep L) s = if s ∈ a.syms ++ b.syms then (depIn L s).map (· + 1) else depIn L s := by
 have hn' : ((hstep L).flatMap HT.syms).Nodup := (hstep_syms h1).nodup_iff.2 hn
 have hnp : ((a :: b :: rest).flatMap HT.syms).Nodup := (hp.flatMap_right HT.syms).nodup_iff.1 hn
 have hpd : ∀ x, x ∈ L.flatMap HT.dep ↔ x ∈ (a :: b :: rest).flatMap HT.dep := fun x => (hp.flatMap_right HT.dep).mem_iff
 have hps : ∀ x, x ∈ L.flatMap HT.syms ↔ x ∈ (a :: b :: rest).flatMap HT.syms := fun x => (hp.flatMap_right HT.syms).mem_iff
 have hmem : ∀ (t : HT) (x k : Nat), (x, k) ∈ t.dep → x ∈ t.syms := fun t x k hx => by
  rw [← HT.dep_syms]
  exact List.mem_map.2 ⟨_, hx, rfl⟩
 by_cases hs : s ∈ a.syms ++ b.syms
 ·rw [if_pos hs]
  have hsL : s ∈ L.flatMap HT.syms := by
   rw [hps]
   simp only [List.flatMap_cons, List.mem_append] at hs ⊢
   rcases hs with h | h
   ·exact .inl h
   ·exact .inr (.inl h)
  obtain ⟨k, hk⟩ : ∃ k, depIn L s = some k := by
   cases e : depIn L s with
   | none => exact absurd hsL ((depIn_none s).1 e)
   | some k => exact ⟨k, rfl⟩
  rw [hk, Option.map_some, depIn_mem hn', he]
  rw [depIn_mem hn, hpd] at hk
  simp only [List.flatMap_cons, List.mem_append] at hk
  simp only [List.flatMap_append, List.flatMap_cons, List.flatMap_nil, List.append_nil, List.mem_append, HT.dep, List.mem_map, Prod.mk.injEq, Prod.exists]
  have hdis : ∀ t ∈ rest, s ∉ t.syms := by
   intro t ht hst
   simp only [List.flatMap_cons] at hnp
   rw [← List.append_assoc] at hnp
   exact (List.nodup_append.1 hnp).2.2 s hs s (List.mem_flatMap.2 ⟨t, ht, hst⟩) rfl
  rcases hk with hk | hk | hk
  ·exact .inr ⟨s, k, .inl hk, rfl, rfl⟩
  ·exact .inr ⟨s, k, .inr hk, rfl, rfl⟩
  ·obtain ⟨t, ht, hkt⟩ := List.mem_flatMap.1 hk
   exact absurd (hmem t s k hkt) (hdis t ht)
 ·rw [if_neg hs]
  cases e : depIn L s with
  | none =>
   rw [depIn_none] at e ⊢
   intro h
   exact e (((hstep_syms h1).mem_iff).1 h)
  | some k =>
   rw [depIn_mem hn, hpd] at e
   rw [depIn_mem hn', he]
   simp only [List.flatMap_cons, List.mem_append] at e
   simp only [List.flatMap_append, List.mem_append]
   rcases e with e | e | e
   ·exact absurd (List.mem_append.2 (.inl (hmem a s k e))) hs
   ·exact absurd (List.mem_append.2 (.inr (hmem b s k e))) hs
   ·exact .inl e
/-! ### few equal weights: no great depth -/
def HT.low (t : HT) (d : Nat) : Prop := ∀ p ∈ t.dep, p.2 ≤ d
theorem HT.low_node {a b : HT} {d : Nat} (ha : a.low d) (hb : b.low d) : (HT.node a b).low (d + 1) := by
 intro p hp
 simp only [HT.dep, List.mem_map, List.mem_append] at hp
 obtain ⟨q, hq, rfl⟩ := hp
 rcases hq with hq | hq
 ·have := ha q hq; simp; omega
 ·have := hb q hq; simp; omega
theorem HT.low_mono {a : HT} {d e : Nat} (ha : a.low d) (h : d ≤ e) : a.low e := fun p hp => Nat.le_trans (ha p hp) h
def insideB (k : Nat) (t : HT) : Prop := 2 ^ k < t.wt ∧ t.wt < 2 ^ (k + 1)
structure EqW (k : Nat) (L : List HT) : Prop where
 rng : ∀ t ∈ L, 2 ^ k ≤ t.wt ∧ t.wt ≤ 2 ^ (k + 1) ∧ (t.wt = 2 ^ k → t.low k) ∧ t.low (k + 1)
 one : L.Pairwise fun t u => ¬ (insideB k t ∧ insideB k u)
theorem EqW.perm {k : Nat} {L M : List HT} (h : EqW k L) (hp : L.Perm M) : EqW k M :=
 ⟨fun t ht => h.rng t (hp.mem_iff.2 ht), h.one.perm hp (fun h1 h2 => h1 ⟨h2.2, h2.1⟩)⟩
theorem pow2_succ (k : Nat) : (2 : Int) ^ (k + 1) = 2 * 2 ^ k := by rw [Int.pow_succ, Int.mul_comm]
theorem pow2_pos (k : Nat) : (0 : Int) < 2 ^ k := Int.pow_pos (by omega)
theorem EqW.step {k : Nat} {L : List HT} (h : EqW k L) (h1 : 1 < L.length) : ∃ k', EqW k' (hstep L) := by
 obtain ⟨a, b, rest, hp, he, _, _, _, hab, hrest⟩ := hstep_parts h1
 have hq := h.perm hp
 rw [he]
 obtain ⟨a1, a2, a3, a4⟩ := hq.rng a (by simp)
 obtain ⟨b1, b2, b3, b4⟩ := hq.rng b (by simp)
 have hr := fun t (ht : t ∈ rest) => hq.rng t (by simp [ht])
 have ho := hq.one
 simp only [List.pairwise_cons, List.mem_cons, forall_eq_or_imp] at ho
 obtain ⟨⟨oab, oar⟩, obr, orr⟩ := ho
 have e1 := pow2_succ k
 have e2 := pow2_succ (k + 1)
 have e0 := pow2_pos k
 have wn : (HT.node a b).wt = a.wt + b.wt := rfl
 have hperm : (rest ++ [HT.node a b]).Perm (HT.node a b :: rest) := List.perm_append_comm
 by_cases hb : b.wt = 2 ^ k
 ·have ha : a.wt = 2 ^ k := by omega
  refine ⟨k, EqW.perm ⟨?_, ?_⟩ hperm.symm⟩
  ·intro t ht
   rcases List.mem_cons.1 ht with rfl | ht
   ·refine ⟨by omega, by omega, fun h => by omega, HT.low_node (a3 ha) (b3 hb)⟩
   ·exact hr t ht
  ·rw [List.pairwise_cons]
   refine ⟨fun u _ hh => ?_, orr⟩
   have := hh.1.2
   omega
 ·-- all others are 2^(k+1)
  have hall : ∀ t ∈ rest, t.wt = 2 ^ (k + 1) := by
   intro t ht
   have q1 := hrest t ht
   obtain ⟨t1, t2, _, _⟩ := hr t ht
   by_cases hb2 : b.wt = 2 ^ (k + 1)
   ·omega
   ·have hbi : insideB k b := ⟨by omega, by omega⟩
    have := obr t ht
    rcases Int.lt_or_le t.wt (2 ^ (k + 1)) with h3 | h3
    ·exact absurd ⟨hbi, ⟨by omega, h3⟩⟩ this
    ·omega
  refine ⟨k + 1, EqW.perm ⟨?_, ?_⟩ hperm.symm⟩
  ·intro t ht
   rcases List.mem_cons.1 ht with rfl | ht
   ·refine ⟨?_, by omega, fun h => ?_, HT.low_node a4 b4⟩
    ·omega
    ·exfalso
     omega
   ·obtain ⟨t1, t2, _, t4⟩ := hr t ht
    have := hall t ht
    exact ⟨by omega, by omega, fun _ => t4, HT.low_mono t4 (by omega)⟩
  ·rw [List.pairwise_cons]
   refine ⟨fun u hu hh => ?_, orr.imp_of_mem fun hx hy _ hh => ?_⟩
   ·have := hall u hu
    have := hh.2.1
    omega
   ·have := hall _ hx
    have := hh.1.1
    omega

theorem EqW.run : ∀ (f : Nat) {k : Nat} {L : List HT}, EqW k L → ∃ k', EqW k' (hrun f L)
 | 0, k, L, h => ⟨k, h⟩
 | f + 1, k, L, h => by
  unfold hrun
  split
  ·exact ⟨k, h⟩
  ·obtain ⟨k', h'⟩ := h.step (by omega)
   exact EqW.run f h'
def sumW (L : List HT) : Int := (L.map HT.wt).sum
theorem sumW_perm {L M : List HT} (h : L.Perm M) : sumW L = sumW M := by
 unfold sumW
 induction h with
 | nil => rfl
 | cons x _ ih => simp only [List.map_cons, List.sum_cons, ih]
 | swap x y l => simp only [List.map_cons, List.sum_cons]; omega
 | trans _ _ h1 h2 => exact h1.trans h2
theorem sumW_step {L : List HT} (h1 : 1 < L.length) : sumW (hstep L) = sumW L := by
 obtain ⟨a, b, rest, hp, he, _⟩ := hstep_parts h1
 rw [he, sumW_perm hp, sumW_perm (List.perm_append_comm : (rest ++ [HT.node a b]).Perm _)]
 simp only [sumW, List.cons_append, List.nil_append, List.map_cons, List.sum_cons, HT.wt]
 omega
theorem sumW_run (f : Nat) (L : List HT) : sumW (hrun f L) = sumW L := hrun_inv (P := fun M => sumW M = sumW L) (fun _ h1 h => (sumW_step h1).trans h) f L rfl
theorem mem_leavesTo {ws : List Int} {k : Nat} {t : HT} (h : t ∈ leavesTo ws k) : ∃ s, s < k ∧ 0 < rd ws s ∧ t = .leaf (rd ws s) s := by
 unfold leavesTo at h
 obtain ⟨s, hs, rfl⟩ := List.mem_map.1 h
 simp at hs
 exact ⟨s, hs.1, hs.2, rfl⟩
theorem leavesOf_length (ws : List Int) : (leavesOf ws).length = (posTo ws ws.length).length := by
 unfold leavesOf leavesTo posTo
 simp
theorem sum_ones : ∀ L : List HT, (∀ t ∈ L, t.wt = 1) → sumW L = L.length
 | [], _ => by simp [sumW]
 | t :: L, h => by
  have h1 := sum_ones L (fun u hu => h u (by simp [hu]))
  have h2 := h t (by simp)
  unfold sumW at h1 ⊢
  simp only [List.map_cons, List.sum_cons, List.length_cons, h1, h2]
  omega
theorem onceM_ones (ws : List Int) (most : Nat) (h1 : ∀ s, s < ws.length → rd ws s ≤ 1) (hm : 1 ≤ most) (hn : (posTo ws ws.length).length ≤ 2 ^ most) : ∀ x ∈ onceM ws, x ≤ (most : Int) := by
 intro x hx
 unfold onceM at hx
 obtain ⟨s, hs, rfl⟩ := List.mem_map.1 hx
 cases e : depIn (rootOf ws) s with
 | none => simp
 | some k =>
  simp only
  have hk := (depIn_mem (rootOf_nodup ws) s k).1 e
  obtain ⟨t, ht, hkt⟩ := List.mem_flatMap.1 hk
  have hall : ∀ u ∈ leavesOf ws, u.wt = 1 := by
   intro u hu
   obtain ⟨s', q1, q2, rfl⟩ := mem_leavesTo hu
   have := h1 s' q1
   show rd ws s' = 1
   omega
  have hlow : ∀ u ∈ leavesOf ws, u.low 0 := by
   intro u hu
   obtain ⟨s', q1, q2, rfl⟩ := mem_leavesTo hu
   intro p hp
   simp [HT.dep] at hp
   rw [hp]
   exact Nat.le_refl _
  have hE : EqW 0 (leavesOf ws) := by
   refine ⟨fun u hu => ?_, List.pairwise_of_forall_mem_list fun u hu v hv hh => ?_⟩
   ·have := hall u hu
    have := hlow u hu
    exact ⟨by simp; omega, by simp; omega, fun _ => this, HT.low_mono this (by omega)⟩
   ·have := hall u hu
    have := hh.1.1
    simp at this
    omega
  obtain ⟨k', hR⟩ := EqW.run (leavesOf ws).length hE
  have hR' : EqW k' (rootOf ws) := hR
  have hpos : 0 < (leavesOf ws).length := by
   rcases Nat.eq_zero_or_pos (leavesOf ws).length with h0 | h0
   ·have : leavesOf ws = [] := List.length_eq_zero_iff.1 h0
    unfold rootOf at ht
    rw [this] at ht
    simp [hrun] at ht
   ·exact h0
  have hlen : (rootOf ws).length = 1 := hrun_length _ _ hpos (by omega)
  obtain ⟨r, hr⟩ : ∃ r, rootOf ws = [r] := List.length_eq_one_iff.1 hlen
  have hsum : r.wt = ((leavesOf ws).length : Int) := by
   have h2 : sumW (rootOf ws) = sumW (leavesOf ws) := sumW_run _ _
   rw [hr, sum_ones _ hall] at h2
   simpa [sumW] using h2
  rw [hr] at ht hR'
  simp at ht
  subst ht
  obtain ⟨g1, g2, g3, g4⟩ := hR'.rng t (by simp)
  rw [leavesOf_length] at hsum
  have hcast : ((2 ^ most : Nat) : Int) = (2 : Int) ^ most := by simp
  have hk2 : k ≤ most := by
   by_cases e1 : t.wt = 2 ^ k'
   ·have h5 := (g3 e1) (s, k) hkt
    simp at h5
    have : k' ≤ most := by
     rcases Nat.lt_or_ge most k' with h6 | h6
     ·have : (2 : Nat) ^ most < 2 ^ k' := Nat.pow_lt_pow_right (by omega) h6
      have : ((2 ^ most : Nat) : Int) < ((2 ^ k' : Nat) : Int) := by exact_mod_cast this
      have h7 : ((2 ^ k' : Nat) : Int) = (2 : Int) ^ k' := by simp
      omega
     ·exact h6
    omega
   ·have h5 := g4 (s, k) hkt
    simp at h5
    have : k' < most := by
     rcases Nat.lt_or_ge k' most with h6 | h6
     ·exact h6
     ·have : (2 : Nat) ^ most ≤ 2 ^ k' := Nat.pow_le_pow_right (by omega) h6
      have : ((2 ^ most : Nat) : Int) ≤ ((2 ^ k' : Nat) : Int) := by exact_mod_cast this
      have h7 : ((2 ^ k' : Nat) : Int) = (2 : Int) ^ k' := by simp
      omega
    omega
  omega
/-! ### weights halved till lengths fit -/
def lensM : Nat → Nat → List Int → List Int
 | 0, _, ws => onceM ws
 | f + 1, most, ws => if (onceM ws).all (fun x => decide (x ≤ (most : Int))) = true then onceM ws else lensM f most (halve ws)
def lensOf (most : Nat) (ws : List Int) : List Int := lensM ws.sum.toNat most ws
theorem halve_length (ws : List Int) : (halve ws).length = ws.length := by simp [halve]
theorem rd_halve (ws : List Int) (s : Nat) : rd (halve ws) s = (rd ws s + 1) / 2 := by
 unfold rd halve
 simp only [List.getD_eq_getElem?_getD, List.getElem?_map]
 cases ws[s]? <;> simp
theorem sum_halve : ∀ ws : List Int, (∀ x ∈ ws, 0 ≤ x) → 0 ≤ (halve ws).sum ∧ (halve ws).sum ≤ ws.sum ∧ ((∃ x ∈ ws, 2 ≤ x) → (halve ws).sum < ws.sum)
 | [], _ => by simp [halve]
 | x :: ws, h => by
  obtain ⟨h1, h2, h3⟩ := sum_halve ws (fun y hy => h y (by simp [hy]))
  have hx := h x (by simp)
  unfold halve at *
  simp only [List.map_cons, List.sum_cons]
  refine ⟨by omega, by omega, ?_⟩
  rintro ⟨y, hy, hy2⟩
  rcases List.mem_cons.1 hy with rfl | hy
  ·omega
  ·have := h3 ⟨y, hy, hy2⟩
   omega
theorem sum_nonneg' : ∀ ws : List Int, (∀ x ∈ ws, 0 ≤ x) → 0 ≤ ws.sum
 | [], _ => by simp
 | x :: ws, h => by
  have := sum_nonneg' ws (fun y hy => h y (by simp [hy]))
  have := h x (by simp)
  simp only [List.sum_cons]
  omega
theorem halve_nonneg {ws : List Int} (h : ∀ x ∈ ws, 0 ≤ x) : ∀ x ∈ halve ws, 0 ≤ x := by
 intro x hx
 obtain ⟨y, hy, rfl⟩ := List.mem_map.1 hx
 have := h y hy
 omega
theorem posTo_halve (ws : List Int) (k : Nat) : posTo (halve ws) k = posTo ws k := by
 unfold posTo
 congr 1
 funext s
 rw [rd_halve]
 congr 1
 apply propext
 omega
theorem halve_less {ws : List Int} {most : Nat} (h : ∀ x ∈ ws, 0 ≤ x) (hm : 1 ≤ most) (hn : (posTo ws ws.length).length ≤ 2 ^ most) (hno : ¬ (onceM ws).all (fun x => decide (x ≤ (most : Int))) = true) : (halve ws).sum < ws.sum := by
 apply (sum_halve ws h).2.2
 apply Classical.byContradiction
 intro hc
 apply hno
 rw [List.all_eq_true]
 intro x hx
 simp
 refine onceM_ones ws most (fun s hs => ?_) hm hn x hx
 rw [rd_getElem hs]
 rcases Int.lt_or_le 1 ws[s] with h2 | h2
 ·exact absurd ⟨_, List.getElem_mem hs, by omega⟩ hc
 ·exact h2
end Go.Proofs.YtdbkbeojedndbaaGreatDoor
namespace Go.Proofs.YtdbkbeojedndbaaGreatDoor

/-! ### trees with the order in which they were made -/
def ltT (x y : Nat × HT) : Prop := x.2.wt < y.2.wt ∨ (x.2.wt = y.2.wt ∧ x.1 < y.1)
theorem ltT_trans {x y z : Nat × HT} (h : ltT x y) (k : ltT y z) : ltT x z := by unfold ltT at *; omega
theorem ltT_asymm {x y : Nat × HT} (h : ltT x y) (k : ltT y x) : False := by unfold ltT at *; omega
theorem ltT_total {x y : Nat × HT} (h : x.1 ≠ y.1) : ltT x y ∨ ltT y x := by unfold ltT; omega
abbrev Tags (L : List (Nat × HT)) (N : Nat) : Prop := L.Pairwise (fun x y => x.1 < y.1) ∧ ∀ x ∈ L, x.1 < N
def tstep (L : List (Nat × HT)) (N : Nat) : List (Nat × HT) :=
 ((L.eraseIdx (hA (L.map Prod.snd))).eraseIdx (hB (L.map Prod.snd))) ++ [(N, .node ((L.map Prod.snd).getD (hA (L.map Prod.snd)) default) (((L.map Prod.snd).eraseIdx (hA (L.map Prod.snd))).getD (hB (L.map Prod.snd)) default))]
theorem map_eraseIdx' {α β : Type} (f : α → β) : ∀ (l : List α) (i : Nat), (l.eraseIdx i).map f = (l.map f).eraseIdx i
 | [], _ => rfl
 | _ :: _, 0 => rfl
 | x :: l, i + 1 => by simp only [List.eraseIdx_cons_succ, List.map_cons, map_eraseIdx' f l i]
theorem tstep_map (L : List (Nat × HT)) (N : Nat) : (tstep L N).map Prod.snd = hstep (L.map Prod.snd) := by
 unfold tstep hstep
 rw [List.map_append, map_eraseIdx', map_eraseIdx']
 rfl
theorem least_first {L : List (Nat × HT)} (hT : L.Pairwise (fun x y => x.1 < y.1)) (h : 0 < L.length) (p : Nat) (hp : p = minPos ((L.map Prod.snd).map HT.wt)) :
  ∃ (hp : p < L.length), ∀ u ∈ L.eraseIdx p, ltT L[p] u := by
 subst hp
 obtain ⟨m1, m2, m3⟩ := minPos_spec ((L.map Prod.snd).map HT.wt) (by simpa using h)
 simp only [List.length_map] at m1 m2
 refine ⟨m1, fun u hu => ?_⟩
 have rdw : ∀ j (hj : j < L.length), rd ((L.map Prod.snd).map HT.wt) j = L[j].2.wt := by
  intro j hj
  rw [rd_getElem (by simpa using hj)]
  simp
 obtain ⟨i, hi, hne, rfl⟩ : ∃ i, ∃ hi : i < L.length, i ≠ minPos ((L.map Prod.snd).map HT.wt) ∧ L[i] = u := by
  obtain ⟨i, hi, e⟩ := List.mem_eraseIdx_iff_getElem.1 hu
  exact ⟨i, hi, e.1, e.2⟩
 have q := m2 i hi
 rw [rdw _ m1, rdw _ hi] at q
 unfold ltT
 rcases Nat.lt_trichotomy i (minPos ((L.map Prod.snd).map HT.wt)) with e | e | e
 ·have q3 := m3 i e
  rw [rdw _ m1, rdw _ hi] at q3
  exact .inl q3
 ·exact absurd e hne
 ·have := List.pairwise_iff_getElem.1 hT (minPos ((L.map Prod.snd).map HT.wt)) i m1 hi e
  omega
theorem tstep_parts {L : List (Nat × HT)} {N : Nat} (hT : Tags L N) (h : 1 < L.length) : ∃ a b rest, L.Perm (a :: b :: rest) ∧ tstep L N = rest ++ [(N, .node a.2 b.2)] ∧ ltT a b ∧ (∀ u ∈ rest, ltT b u) ∧ Tags (tstep L N) (N + 1) := by
 obtain ⟨p1, l1⟩ := least_first hT.1 (by omega) (hA (L.map Prod.snd)) rfl
 have hl : (L.eraseIdx (hA (L.map Prod.snd))).length = L.length - 1 := List.length_eraseIdx_of_lt p1
 have hT1 : (L.eraseIdx (hA (L.map Prod.snd))).Pairwise (fun x y => x.1 < y.1) := hT.1.sublist (List.eraseIdx_sublist _ _)
 obtain ⟨p2, l2⟩ := least_first hT1 (by omega) (hB (L.map Prod.snd)) (by unfold hB; rw [map_eraseIdx', map_eraseIdx', map_eraseIdx'])
 have e1 : (L.map Prod.snd).getD (hA (L.map Prod.snd)) default = (L[hA (L.map Prod.snd)]).2 := by
  rw [List.getD_eq_getElem?_getD, List.getElem?_map, List.getElem?_eq_getElem p1]; rfl
 have e2 : ((L.map Prod.snd).eraseIdx (hA (L.map Prod.snd))).getD (hB (L.map Prod.snd)) default = ((L.eraseIdx (hA (L.map Prod.snd)))[hB (L.map Prod.snd)]).2 := by
  rw [← map_eraseIdx', List.getD_eq_getElem?_getD, List.getElem?_map, List.getElem?_eq_getElem p2]; rfl
 have hstep' : tstep L N = ((L.eraseIdx (hA (L.map Prod.snd))).eraseIdx (hB (L.map Prod.snd))) ++ [(N, .node (L[hA (L.map Prod.snd)]).2 ((L.eraseIdx (hA (L.map Prod.snd)))[hB (L.map Prod.snd)]).2)] := by
  unfold tstep
  rw [e1, e2]
 refine ⟨_, _, _, (perm_cons_erase L _ p1).trans ((perm_cons_erase _ _ p2).cons _), hstep', l1 _ (List.getElem_mem _), l2, ?_⟩
 rw [hstep']
 have hsub : ((L.eraseIdx (hA (L.map Prod.snd))).eraseIdx (hB (L.map Prod.snd))).Sublist L := (List.eraseIdx_sublist _ _).trans (List.eraseIdx_sublist _ _)
 refine ⟨List.pairwise_append.2 ⟨hT.1.sublist hsub, List.pairwise_singleton _ _, fun x hx y hy => ?_⟩, fun x hx => ?_⟩
 ·simp at hy
  subst hy
  exact hT.2 x (hsub.subset hx)
 ·rcases List.mem_append.1 hx with hx | hx
  ·have := hT.2 x (hsub.subset hx)
   omega
  ·simp at hx
   subst hx
   exact Nat.lt_succ_self _
theorem Tags.ne {L : List (Nat × HT)} {N : Nat} (hT : Tags L N) {a b : Nat × HT} {rest : List (Nat × HT)} (hp : L.Perm (a :: b :: rest)) : a.1 ≠ b.1 ∧ (∀ u ∈ rest, u.1 ≠ a.1 ∧ u.1 ≠ b.1) := by
 have h1 : L.Pairwise (fun x y => x.1 ≠ y.1) := hT.1.imp fun h => by omega
 have h2 := h1.perm hp (fun h => Ne.symm h)
 simp only [List.pairwise_cons, List.mem_cons, forall_eq_or_imp] at h2
 exact ⟨h2.1.1, fun u hu => ⟨fun e => h2.1.2 u hu e.symm, fun e => h2.2.1 u hu e.symm⟩⟩
theorem mono_run (f : Nat) : ∀ (L : List (Nat × HT)) (N : Nat), Tags L N → 0 < L.length → L.length ≤ f + 1 → (∀ x ∈ L, 0 ≤ x.2.wt) →
  ∃ root, hrun f (L.map Prod.snd) = [root] ∧ ∃ D : Nat → Nat, (∀ x ∈ L, ∀ s k, (s, k) ∈ x.2.dep → (s, k + D x.1) ∈ root.dep) ∧ (∀ x ∈ L, ∀ y ∈ L, ltT x y → D y.1 ≤ D x.1) ∧
   (∀ a ∈ L, ∀ b ∈ L, a.1 ≠ b.1 → (∀ u ∈ L, u.1 = a.1 ∨ ltT a u) → (∀ u ∈ L, u.1 = a.1 ∨ u.1 = b.1 ∨ ltT b u) → ∀ z ∈ L, z.2.wt ≤ a.2.wt + b.2.wt → D a.1 ≤ D z.1 + 1) := by
 have one : ∀ (L : List (Nat × HT)) (f : Nat), L.length = 1 → ∃ root, hrun f (L.map Prod.snd) = [root] ∧ ∃ D : Nat → Nat, (∀ x ∈ L, ∀ s k, (s, k) ∈ x.2.dep → (s, k + D x.1) ∈ root.dep) ∧ (∀ x ∈ L, ∀ y ∈ L, ltT x y → D y.1 ≤ D x.1) ∧
   (∀ a ∈ L, ∀ b ∈ L, a.1 ≠ b.1 → (∀ u ∈ L, u.1 = a.1 ∨ ltT a u) → (∀ u ∈ L, u.1 = a.1 ∨ u.1 = b.1 ∨ ltT b u) → ∀ z ∈ L, z.2.wt ≤ a.2.wt + b.2.wt → D a.1 ≤ D z.1 + 1) := by
  intro L f hl
  obtain ⟨x, rfl⟩ := List.length_eq_one_iff.1 hl
  refine ⟨x.2, ?_, fun _ => 0, ?_, fun _ _ _ _ _ => Nat.le_refl _, fun _ _ _ _ _ _ _ _ _ _ => Nat.zero_le _⟩
  ·cases f with
   | zero => rfl
   | succ f => unfold hrun; rw [if_pos (by simp)]; rfl
  ·intro y hy s k h
   simp at hy
   subst hy
   exact h
 induction f with
 | zero =>
  intro L N _ h0 h1 _
  exact one L 0 (by omega)
 | succ f ih =>
  intro L N hT h0 h1 hw
  by_cases hlen : L.length = 1
  ·exact one L _ hlen
  ·obtain ⟨a, b, rest, hp, he, hab, hbr, hT'⟩ := tstep_parts hT (by omega)
   obtain ⟨nab, nr⟩ := hT.ne hp
   have hlp : (tstep L N).length + 1 = L.length := by
    rw [he, hp.length_eq]
    simp
   have wa : 0 ≤ a.2.wt := hw a (hp.mem_iff.2 (by simp))
   have wb : 0 ≤ b.2.wt := hw b (hp.mem_iff.2 (by simp))
   have wab : a.2.wt ≤ b.2.wt := by unfold ltT at hab; omega
   have hwr : ∀ u ∈ rest, b.2.wt ≤ u.2.wt := fun u hu => by have := hbr u hu; unfold ltT at this; omega
   have hNr : ∀ u ∈ rest, u.1 < N := fun u hu => hT.2 u (hp.mem_iff.2 (by simp [hu]))
   have hmem : ∀ x, x ∈ tstep L N ↔ x ∈ rest ∨ x = (N, .node a.2 b.2) := fun x => by rw [he]; simp
   have wn : (HT.node a.2 b.2).wt = a.2.wt + b.2.wt := rfl
   have hw' : ∀ x ∈ tstep L N, b.2.wt ≤ x.2.wt := by
    intro x hx
    rcases (hmem x).1 hx with hx | rfl
    ·exact hwr x hx
    ·show b.2.wt ≤ (HT.node a.2 b.2).wt
     omega
   obtain ⟨root, hroot, D', hd, hP, hQ⟩ := ih (tstep L N) (N + 1) hT' (by omega) (by omega) (fun x hx => by have := hw' x hx; omega)
   have hn : ((N, .node a.2 b.2) : Nat × HT) ∈ tstep L N := (hmem _).2 (.inr rfl)
   have hr' : ∀ u ∈ rest, u ∈ tstep L N := fun u hu => (hmem u).2 (.inl hu)
   have hin : ∀ x, x ∈ L ↔ x = a ∨ x = b ∨ x ∈ rest := fun x => by rw [hp.mem_iff]; simp
   -- no other is deeper than one more than the new one
   have key : ∀ y ∈ rest, D' y.1 ≤ D' N + 1 := by
    intro y hy
    have hl2 : 1 < (tstep L N).length := by
     have : 0 < rest.length := List.length_pos_of_mem hy
     rw [he]; simp; omega
    obtain ⟨a', b', rest', hp', _, hab', hbr', _⟩ := tstep_parts hT' hl2
    obtain ⟨nab', nr'⟩ := hT'.ne hp'
    have ha' : a' ∈ tstep L N := hp'.mem_iff.2 (by simp)
    have hb' : b' ∈ tstep L N := hp'.mem_iff.2 (by simp)
    have hmin1 : ∀ u ∈ tstep L N, u.1 = a'.1 ∨ ltT a' u := by
     intro u hu
     rcases List.mem_cons.1 (hp'.mem_iff.1 hu) with rfl | hu
     ·exact .inl rfl
     ·rcases List.mem_cons.1 hu with rfl | hu
      ·exact .inr hab'
      ·exact .inr (ltT_trans hab' (hbr' u hu))
    have hmin2 : ∀ u ∈ tstep L N, u.1 = a'.1 ∨ u.1 = b'.1 ∨ ltT b' u := by
     intro u hu
     rcases List.mem_cons.1 (hp'.mem_iff.1 hu) with rfl | hu
     ·exact .inl rfl
     ·rcases List.mem_cons.1 hu with rfl | hu
      ·exact .inr (.inl rfl)
      ·exact .inr (.inr (hbr' u hu))
    have h1 : D' y.1 ≤ D' a'.1 := by
     rcases hmin1 y (hr' y hy) with e | e
     ·rw [e]; exact Nat.le_refl _
     ·exact hP _ ha' _ (hr' y hy) e
    have h2 := hQ a' ha' b' hb' nab' hmin1 hmin2 _ hn (by
     have := hw' a' ha'
     have := hw' b' hb'
     show (HT.node a.2 b.2).wt ≤ _
     omega)
    exact Nat.le_trans h1 h2
   refine ⟨root, ?_, fun t => if t = a.1 ∨ t = b.1 then D' N + 1 else D' t, ?_, ?_, ?_⟩
   ·unfold hrun
    rw [if_neg (by simp; omega), ← tstep_map L N]
    exact hroot
   ·intro x hx s k hk
    rcases (hin x).1 hx with rfl | rfl | hx
    ·simp only [true_or, if_true]
     have := hd _ hn s (k + 1) (by simp only [HT.dep, List.mem_map, List.mem_append]; exact ⟨(s, k), .inl hk, rfl⟩)
     rwa [show k + 1 + D' N = k + (D' N + 1) from by omega] at this
    ·simp only [or_true, if_true]
     have := hd _ hn s (k + 1) (by simp only [HT.dep, List.mem_map, List.mem_append]; exact ⟨(s, k), .inr hk, rfl⟩)
     rwa [show k + 1 + D' N = k + (D' N + 1) from by omega] at this
    ·obtain ⟨n1, n2⟩ := nr x hx
     simp only [if_neg (show ¬ (x.1 = a.1 ∨ x.1 = b.1) by simp [n1, n2])]
     exact hd x (hr' x hx) s k hk
   ·intro x hx y hy hxy
    rcases (hin y).1 hy with rfl | rfl | hy
    ·rcases (hin x).1 hx with rfl | rfl | hx
     ·exact Nat.le_refl _
     ·exact (ltT_asymm hxy hab).elim
     ·exact (ltT_asymm hxy (ltT_trans hab (hbr x hx))).elim
    ·rcases (hin x).1 hx with rfl | rfl | hx
     ·simp
     ·exact Nat.le_refl _
     ·exact (ltT_asymm hxy (hbr x hx)).elim
    ·obtain ⟨n1, n2⟩ := nr y hy
     simp only [if_neg (show ¬ (y.1 = a.1 ∨ y.1 = b.1) by simp [n1, n2])]
     rcases (hin x).1 hx with rfl | rfl | hx
     ·simp only [true_or, if_true]
      exact key y hy
     ·simp only [or_true, if_true]
      exact key y hy
     ·obtain ⟨n3, n4⟩ := nr x hx
      simp only [if_neg (show ¬ (x.1 = a.1 ∨ x.1 = b.1) by simp [n3, n4])]
      exact hP _ (hr' x hx) _ (hr' y hy) hxy
   ·intro a1 ha1 b1 hb1 hne m1 m2 z hz hwz
    have ea : a1 = a := by
     rcases (hin a1).1 ha1 with e | e | e
     ·exact e
     ·rcases m1 a ((hin a).2 (.inl rfl)) with h | h
      ·rw [e] at h; exact absurd h nab
      ·rw [e] at h; exact (ltT_asymm h hab).elim
     ·rcases m1 a ((hin a).2 (.inl rfl)) with h | h
      ·exact absurd h.symm (nr a1 e).1
      ·exact (ltT_asymm h (ltT_trans hab (hbr a1 e))).elim
    subst ea
    have eb : b1 = b := by
     rcases (hin b1).1 hb1 with e | e | e
     ·rw [e] at hne; exact absurd rfl hne
     ·exact e
     ·rcases m2 b ((hin b).2 (.inr (.inl rfl))) with h | h | h
      ·exact absurd h.symm nab
      ·exact absurd h.symm (nr b1 e).2
      ·exact (ltT_asymm h (hbr b1 e)).elim
    subst eb
    simp only [true_or, if_true]
    rcases (hin z).1 hz with rfl | rfl | hz
    ·simp
    ·simp
    ·obtain ⟨n1, n2⟩ := nr z hz
     simp only [if_neg (show ¬ (z.1 = a1.1 ∨ z.1 = b1.1) by simp [n1, n2])]
     have := hP z (hr' z hz) _ hn (by
      unfold ltT
      have := hNr z hz
      show z.2.wt < (HT.node a1.2 b1.2).wt ∨ (z.2.wt = (HT.node a1.2 b1.2).wt ∧ z.1 < N)
      omega)
     simp only at this
     omega
end Go.Proofs.YtdbkbeojedndbaaGreatDoor
namespace Go.Proofs.YtdbkbeojedndbaaGreatDoor

def swp (l : List Int) (i k : Nat) : List Int := (l.set i (rd l k)).set k (rd l i)
theorem swp_length (l : List Int) (i k : Nat) : (swp l i k).length = l.length := by simp [swp]
theorem rd_swp {l : List Int} {i k : Nat} (hi : i < l.length) (hk : k < l.length) (j : Nat) : rd (swp l i k) j = if k = j then rd l i else if i = j then rd l k else rd l j := by
 unfold swp
 rw [rd_set (by rw [List.length_set]; exact hk), rd_set hi]
theorem swp_perm {l : List Int} {i k : Nat} (hi : i < l.length) (hk : k < l.length) : (swp l i k).Perm l := by
 unfold swp
 rw [rd_getElem hi, rd_getElem hk]
 exact List.set_set_perm hi hk
structure Ord (lt : Int → Int → Bool) : Prop where
 tr : ∀ x y z, lt y x = false → lt z y = false → lt z x = false
 asy : ∀ x y, lt x y = true → lt y x = false
def heapOn (lt : Int → Int → Bool) (l : List Int) (i0 n : Nat) : Prop := ∀ k, 0 < k → k < n → i0 ≤ (k - 1) / 2 → lt (rd l k) (rd l ((k - 1) / 2)) = false
def childOf (lt : Int → Int → Bool) (l : List Int) (i n : Nat) : Nat := if 2 * i + 2 < n ∧ lt (rd l (2 * i + 2)) (rd l (2 * i + 1)) = true then 2 * i + 2 else 2 * i + 1
def downM (lt : Int → Int → Bool) : Nat → List Int → Nat → Nat → List Int
 | 0, l, _, _ => l
 | f + 1, l, i, n => if n ≤ 2 * i + 1 then l else if lt (rd l (childOf lt l i n)) (rd l i) = true then downM lt f (swp l i (childOf lt l i n)) (childOf lt l i n) n else l
def upM (lt : Int → Int → Bool) : Nat → List Int → Nat → List Int
 | 0, l, _ => l
 | f + 1, l, j => if (j - 1) / 2 = j then l else if lt (rd l j) (rd l ((j - 1) / 2)) = true then upM lt f (swp l ((j - 1) / 2) j) ((j - 1) / 2) else l
theorem childOf_range (lt : Int → Int → Bool) (l : List Int) (i n : Nat) (h : 2 * i + 1 < n) : i < childOf lt l i n ∧ childOf lt l i n < n ∧ (childOf lt l i n - 1) / 2 = i := by
 unfold childOf
 split <;> omega
theorem downM_keeps (lt : Int → Int → Bool) (f : Nat) : ∀ (l : List Int) (i n : Nat), n ≤ l.length → (downM lt f l i n).Perm l ∧ ∀ k, n ≤ k → rd (downM lt f l i n) k = rd l k := by
 induction f with
 | zero => intro l i n _; exact ⟨List.Perm.refl _, fun _ _ => rfl⟩
 | succ f ih =>
  intro l i n hn
  unfold downM
  split
  ·exact ⟨List.Perm.refl _, fun _ _ => rfl⟩
  ·rename_i h
   have hc := childOf_range lt l i n (by omega)
   split
   ·obtain ⟨h1, h2⟩ := ih (swp l i (childOf lt l i n)) (childOf lt l i n) n (by rw [swp_length]; exact hn)
    refine ⟨h1.trans (swp_perm (by omega) (by omega)), fun k hk => ?_⟩
    rw [h2 k hk, rd_swp (by omega) (by omega), if_neg (by omega), if_neg (by omega)]
   ·exact ⟨List.Perm.refl _, fun _ _ => rfl⟩
theorem downM_heap {lt : Int → Int → Bool} (O : Ord lt) (i0 f : Nat) : ∀ (l : List Int) (i n : Nat), n ≤ l.length → i0 ≤ i → n ≤ i + f →
  (∀ k, 0 < k → k < n → i0 ≤ (k - 1) / 2 → (k - 1) / 2 ≠ i → lt (rd l k) (rd l ((k - 1) / 2)) = false) →
  (∀ k, 0 < k → k < n → (k - 1) / 2 = i → i ≠ i0 → lt (rd l k) (rd l ((i - 1) / 2)) = false) → heapOn lt (downM lt f l i n) i0 n := by
 induction f with
 | zero =>
  intro l i n _ h0 hf hA _ k k0 kn ki
  exact hA k k0 kn ki (by omega)
 | succ f ih =>
  intro l i n hn h0 hf hA hB
  unfold downM
  split
  ·rename_i h
   intro k k0 kn ki
   exact hA k k0 kn ki (by omega)
  ·rename_i h
   obtain ⟨c1, c2, c3⟩ := childOf_range lt l i n (by omega)
   have hsib : ∀ k, 0 < k → k < n → (k - 1) / 2 = i → k ≠ childOf lt l i n → lt (rd l k) (rd l (childOf lt l i n)) = false := by
    intro k k0 kn ki hk
    unfold childOf at hk ⊢
    by_cases hq : 2 * i + 2 < n ∧ lt (rd l (2 * i + 2)) (rd l (2 * i + 1)) = true
    ·rw [if_pos hq] at hk ⊢
     rw [show k = 2 * i + 1 from by omega]
     exact O.asy _ _ hq.2
    ·rw [if_neg hq] at hk ⊢
     rw [show k = 2 * i + 2 from by omega]
     have : ¬ lt (rd l (2 * i + 2)) (rd l (2 * i + 1)) = true := fun e => hq ⟨by omega, e⟩
     simpa using this
   generalize childOf lt l i n = j at *
   split
   ·rename_i hlt
    refine ih _ _ _ (by rw [swp_length]; exact hn) (by omega) (by omega) ?_ ?_
    ·intro k k0 kn ki hkj
     rw [rd_swp (by omega) (by omega), rd_swp (by omega) (by omega)]
     by_cases e1 : j = k
     ·subst e1
      rw [if_pos rfl, if_neg (by omega), if_pos (by omega)]
      exact O.asy _ _ hlt
     ·rw [if_neg e1, if_neg (c := j = (k - 1) / 2) (fun e => hkj e.symm)]
      by_cases e2 : (k - 1) / 2 = i
      ·rw [if_neg (by omega), if_pos e2.symm]
       exact hsib k k0 kn e2 (Ne.symm e1)
      ·rw [if_neg (c := i = (k - 1) / 2) (Ne.symm e2)]
       by_cases e3 : i = k
       ·rw [if_pos e3]
        subst e3
        exact hB j (by omega) c2 c3 (by omega)
       ·rw [if_neg e3]
        exact hA k k0 kn ki e2
    ·intro k k0 kn hk hj
     rw [c3, rd_swp (by omega) (by omega), rd_swp (by omega) (by omega), if_neg (by omega), if_neg (by omega), if_neg (by omega), if_pos rfl]
     have := hA k k0 kn (by omega) (by omega)
     rwa [hk] at this
   ·rename_i hlt
    intro k k0 kn ki
    by_cases e : (k - 1) / 2 = i
    ·rw [e]
     by_cases e1 : k = j
     ·subst e1; simpa using hlt
     ·exact O.tr _ _ _ (by simpa using hlt) (hsib k k0 kn e e1)
    ·exact hA k k0 kn ki e
theorem upM_perm (lt : Int → Int → Bool) (f : Nat) : ∀ (l : List Int) (j : Nat), j < l.length → (upM lt f l j).Perm l := by
 induction f with
 | zero => intro l j _; exact List.Perm.refl _
 | succ f ih =>
  intro l j hj
  unfold upM
  split
  ·exact List.Perm.refl _
  ·split
   ·exact (ih _ _ (by rw [swp_length]; omega)).trans (swp_perm (by omega) hj)
   ·exact List.Perm.refl _
theorem upM_heap {lt : Int → Int → Bool} (O : Ord lt) (f : Nat) : ∀ (l : List Int) (j n : Nat), n = l.length → j < n → j < f →
  (∀ k, 0 < k → k < n → k ≠ j → lt (rd l k) (rd l ((k - 1) / 2)) = false) →
  (0 < j → ∀ k, 0 < k → k < n → (k - 1) / 2 = j → lt (rd l k) (rd l ((j - 1) / 2)) = false) → heapOn lt (upM lt f l j) 0 n := by
 induction f with
 | zero => intro l j n _ _ hf; omega
 | succ f ih =>
  intro l j n hn hj hf hA hB
  unfold upM
  split
  ·rename_i h
   intro k k0 kn _
   exact hA k k0 kn (by omega)
  ·rename_i h
   split
   ·rename_i hlt
    refine ih _ _ _ (by rw [swp_length]; exact hn) (by omega) (by omega) ?_ ?_
    ·intro k k0 kn hk
     rw [rd_swp (by omega) (by omega), rd_swp (by omega) (by omega)]
     by_cases e1 : j = k
     ·subst e1
      rw [if_pos rfl, if_neg (by omega), if_pos rfl]
      exact O.asy _ _ hlt
     ·rw [if_neg e1, if_neg (Ne.symm hk)]
      by_cases e2 : (k - 1) / 2 = (j - 1) / 2
      ·rw [if_neg (by omega), if_pos e2.symm]
       have := hA k k0 kn (Ne.symm e1)
       rw [e2] at this
       exact O.tr _ _ _ (O.asy _ _ hlt) this
      ·by_cases e3 : j = (k - 1) / 2
       ·rw [if_pos e3]
        exact hB (by omega) k k0 kn e3.symm
       ·rw [if_neg e3, if_neg (Ne.symm e2)]
        exact hA k k0 kn (Ne.symm e1)
    ·intro hi k k0 kn hk
     rw [rd_swp (by omega) (by omega), rd_swp (by omega) (by omega)]
     rw [if_neg (c := j = ((j - 1) / 2 - 1) / 2) (by omega), if_neg (c := (j - 1) / 2 = ((j - 1) / 2 - 1) / 2) (by omega)]
     have hp := hA ((j - 1) / 2) (by omega) (by omega) (by omega)
     by_cases e1 : j = k
     ·rw [if_pos e1]
      exact hp
     ·rw [if_neg e1, if_neg (by omega)]
      have h2 := hA k k0 kn (Ne.symm e1)
      rw [hk] at h2
      exact O.tr _ _ _ hp h2
   ·rename_i hlt
    intro k k0 kn _
    by_cases e : k = j
    ·subst e; simpa using hlt
    ·exact hA k k0 kn e
theorem heapOn_least {lt : Int → Int → Bool} (O : Ord lt) {l : List Int} {n : Nat} (h : heapOn lt l 0 n) (h0 : lt (rd l 0) (rd l 0) = false) : ∀ k, k < n → lt (rd l k) (rd l 0) = false := by
 intro k
 induction k using Nat.strongRecOn with
 | _ k ih =>
  intro hk
  rcases Nat.eq_zero_or_pos k with e | e
  ·rw [e]; exact h0
  ·exact O.tr _ _ _ (ih ((k - 1) / 2) (by omega) (by omega)) (h k e hk (Nat.zero_le _))
def initM (lt : Int → Int → Bool) (n : Nat) : Nat → List Int → List Int
 | 0, l => l
 | i + 1, l => initM lt n i (downM lt n l i n)
theorem initM_spec {lt : Int → Int → Bool} (O : Ord lt) (n i : Nat) : ∀ l : List Int, l.length = n → heapOn lt l i n → heapOn lt (initM lt n i l) 0 n ∧ (initM lt n i l).Perm l := by
 induction i with
 | zero => intro l _ h; exact ⟨h, List.Perm.refl _⟩
 | succ i ih =>
  intro l hl h
  have hk := downM_keeps lt n l i n (by omega)
  have hd := downM_heap O i n l i n (by omega) (Nat.le_refl _) (by omega) (fun k k0 kn ki hne => h k k0 kn (by omega)) (fun k _ _ _ hne => absurd rfl hne)
  obtain ⟨h1, h2⟩ := ih (downM lt n l i n) (by rw [hk.1.length_eq, hl]) hd
  exact ⟨h1, h2.trans hk.1⟩
theorem heapOn_half (lt : Int → Int → Bool) (l : List Int) (n : Nat) : heapOn lt l (n / 2) n := by
 intro k k0 kn ki
 omega
theorem rd_take {l : List Int} {n k : Nat} (h : k < n) : rd (l.take n) k = rd l k := by
 unfold rd
 simp only [List.getD_eq_getElem?_getD, List.getElem?_take, if_pos h]
def popM (lt : Int → Int → Bool) (l : List Int) : List Int := downM lt l.length (swp l 0 (l.length - 1)) 0 (l.length - 1)
theorem popM_spec {lt : Int → Int → Bool} (O : Ord lt) {l : List Int} (h0 : 0 < l.length) (h : heapOn lt l 0 l.length) :
  (popM lt l).length = l.length ∧ rd (popM lt l) (l.length - 1) = rd l 0 ∧ heapOn lt ((popM lt l).take (l.length - 1)) 0 (l.length - 1) ∧ l.Perm (rd l 0 :: (popM lt l).take (l.length - 1)) := by
 have hk := downM_keeps lt l.length (swp l 0 (l.length - 1)) 0 (l.length - 1) (by rw [swp_length]; omega)
 have hsl := swp_length l 0 (l.length - 1)
 have hlen : (popM lt l).length = l.length := by unfold popM; rw [hk.1.length_eq, hsl]
 have hlast : rd (popM lt l) (l.length - 1) = rd l 0 := by
  unfold popM
  rw [hk.2 _ (Nat.le_refl _), rd_swp (by omega) (by omega), if_pos rfl]
 have hheap := downM_heap O 0 l.length (swp l 0 (l.length - 1)) 0 (l.length - 1) (by omega) (Nat.le_refl _) (by omega) (fun k k0 kn _ hne => by
   rw [rd_swp (by omega) (by omega), rd_swp (by omega) (by omega), if_neg (by omega), if_neg (by omega), if_neg (by omega), if_neg (by omega)]
   exact h k k0 (by omega) (Nat.zero_le _)) (fun k _ _ _ hne => absurd rfl hne)
 refine ⟨hlen, hlast, fun k k0 kn ki => ?_, ?_⟩
 ·rw [rd_take kn, rd_take (by omega)]
  exact hheap k k0 kn ki
 ·have hp : (popM lt l).Perm l := hk.1.trans (swp_perm (by omega) (by omega))
  have hs : popM lt l = (popM lt l).take (l.length - 1) ++ [rd (popM lt l) (l.length - 1)] := by
   have h1 := List.take_succ_eq_append_getElem (l := popM lt l) (i := l.length - 1) (by omega)
   rw [← rd_getElem, List.take_of_length_le (by omega)] at h1
   exact h1
  rw [hlast] at hs
  refine hp.symm.trans ?_
  rw [hs]
  refine List.perm_append_comm.trans ?_
  simp
  rw [← hs]
def pushM (lt : Int → Int → Bool) (l : List Int) (x : Int) : List Int := upM lt (l.length + 1) (l ++ [x]) l.length
theorem rd_append_left {l r : List Int} {k : Nat} (h : k < l.length) : rd (l ++ r) k = rd l k := by
 unfold rd
 simp only [List.getD_eq_getElem?_getD, List.getElem?_append_left h]
theorem pushM_spec {lt : Int → Int → Bool} (O : Ord lt) {l : List Int} (x : Int) (h : heapOn lt l 0 l.length) : heapOn lt (pushM lt l x) 0 (l.length + 1) ∧ (pushM lt l x).Perm (l ++ [x]) := by
 refine ⟨upM_heap O _ _ _ _ (by simp) (by omega) (by omega) (fun k k0 kn hk => ?_) (fun _ k _ kn hk => by omega), upM_perm lt _ _ _ (by simp)⟩
 rw [rd_append_left (by omega), rd_append_left (by omega)]
 exact h k k0 (by omega) (Nat.zero_le _)
end Go.Proofs.YtdbkbeojedndbaaGreatDoor
namespace Go.Proofs.YtdbkbeojedndbaaGreatDoor

def TreeAt (flat sy : List Int) : HT → Nat → Prop
 | .leaf w s, i => rd flat (i * 4) = w ∧ rd flat (i * 4 + 2) = -1 ∧ i < sy.length ∧ rd sy i = (s : Nat)
 | .node l r, i => ∃ a b : Nat, rd flat (i * 4) = l.wt + r.wt ∧ rd flat (i * 4 + 2) = (a : Int) ∧ rd flat (i * 4 + 3) = (b : Int) ∧ a < i ∧ b < i ∧ TreeAt flat sy l a ∧ TreeAt flat sy r b
theorem TreeAt.wt {flat sy : List Int} : ∀ {t : HT} {i : Nat}, TreeAt flat sy t i → rd flat (i * 4) = t.wt
 | .leaf _ _, _, h => h.1
 | .node _ _, _, ⟨_, _, h, _⟩ => h
theorem TreeAt.more {flat sy : List Int} (r : List Int) : ∀ {t : HT} {i : Nat}, TreeAt flat sy t i → i * 4 + 4 ≤ flat.length → TreeAt (flat ++ r) sy t i
 | .leaf _ _, i, ⟨h1, h2, h3, h4⟩, hl => ⟨by rw [rd_append_left (by omega)]; exact h1, by rw [rd_append_left (by omega)]; exact h2, h3, h4⟩
 | .node l r', i, ⟨a, b, h1, h2, h3, ha, hb, hl, hr⟩, hlen =>
  ⟨a, b, by rw [rd_append_left (by omega)]; exact h1, by rw [rd_append_left (by omega)]; exact h2, by rw [rd_append_left (by omega)]; exact h3, ha, hb, hl.more r (by omega), hr.more r (by omega)⟩
theorem TreeAt.moreS {flat sy : List Int} (r : List Int) : ∀ {t : HT} {i : Nat}, TreeAt flat sy t i → TreeAt flat (sy ++ r) t i
 | .leaf _ _, i, ⟨h1, h2, h3, h4⟩ => ⟨h1, h2, by rw [List.length_append]; omega, by rw [rd_append_left h3]; exact h4⟩
 | .node l r', i, ⟨a, b, h1, h2, h3, ha, hb, hl, hr⟩ => ⟨a, b, h1, h2, h3, ha, hb, hl.moreS r, hr.moreS r⟩
def writeD : HT → Nat → List Int → List Int
 | .leaf _ s, d, out => out.set s (max d 1 : Nat)
 | .node l r, d, out => writeD r (d + 1) (writeD l (d + 1) out)
theorem writeD_length : ∀ (t : HT) (d : Nat) (out : List Int), (writeD t d out).length = out.length
 | .leaf _ _, _, _ => by simp [writeD]
 | .node l r, d, out => by simp only [writeD, writeD_length]
theorem writeD_spec : ∀ (t : HT) (d : Nat) (out : List Int), t.syms.Nodup → (∀ s ∈ t.syms, s < out.length) →
  (∀ s k, (s, k) ∈ t.dep → rd (writeD t d out) s = (max (d + k) 1 : Nat)) ∧ ∀ s, s ∉ t.syms → rd (writeD t d out) s = rd out s
 | .leaf w s, d, out, _, hs => by
  have h0 := hs s (by simp [HT.syms])
  refine ⟨fun s' k h => ?_, fun s' h => ?_⟩
  ·simp [HT.dep] at h
   obtain ⟨rfl, rfl⟩ := h
   unfold writeD
   rw [rd_set h0, if_pos rfl, Nat.add_zero]
  ·simp [HT.syms] at h
   unfold writeD
   rw [rd_set h0, if_neg (Ne.symm h)]
 | .node l r, d, out, hn, hs => by
  simp only [HT.syms] at hn hs
  obtain ⟨n1, n2, n3⟩ := List.nodup_append.1 hn
  obtain ⟨l1, l2⟩ := writeD_spec l (d + 1) out n1 (fun s h => hs s (List.mem_append.2 (.inl h)))
  obtain ⟨r1, r2⟩ := writeD_spec r (d + 1) (writeD l (d + 1) out) n2 (fun s h => by rw [writeD_length]; exact hs s (List.mem_append.2 (.inr h)))
  have hmem : ∀ (t : HT) (x k : Nat), (x, k) ∈ t.dep → x ∈ t.syms := fun t x k hx => by
   rw [← HT.dep_syms]
   exact List.mem_map.2 ⟨_, hx, rfl⟩
  refine ⟨fun s k h => ?_, fun s h => ?_⟩
  ·simp only [HT.dep, List.mem_map, List.mem_append] at h
   obtain ⟨⟨s', k'⟩, h, he⟩ := h
   simp only [Prod.mk.injEq] at he
   obtain ⟨rfl, rfl⟩ := he
   simp only [writeD]
   rcases h with h | h
   ·rw [r2 s' (fun h2 => n3 s' (hmem l s' k' h) s' h2 rfl), l1 s' k' h]
    congr 2
    omega
   ·rw [r1 s' k' h]
    congr 2
    omega
  ·simp only [HT.syms, List.mem_append, not_or] at h
   simp only [writeD]
   rw [r2 s h.2, l2 s h.1]
theorem rd_zeros (n s : Nat) : rd (List.replicate n 0) s = 0 := by
 unfold rd
 rw [List.getD_eq_getElem?_getD, List.getElem?_replicate]
 split <;> rfl
theorem writeD_once (ws : List Int) (root : HT) (h : rootOf ws = [root]) : writeD root 0 (List.replicate ws.length 0) = onceM ws := by
 have hn : root.syms.Nodup := by have := rootOf_nodup ws; rw [h] at this; simpa using this
 have hs : ∀ s ∈ root.syms, s < ws.length := fun s hs => by
  have h1 := (rootOf_syms ws).mem_iff (a := s)
  rw [h] at h1
  exact (mem_posTo.1 (h1.1 (by simpa using hs))).1
 obtain ⟨h1, h2⟩ := writeD_spec root 0 (List.replicate ws.length 0) hn (by simpa using hs)
 have hlen : (writeD root 0 (List.replicate ws.length 0)).length = ws.length := by rw [writeD_length]; simp
 apply List.ext_getElem (by rw [hlen, onceM_length])
 intro s q1 q2
 rw [← rd_getElem q1]
 cases hd : depIn (rootOf ws) s with
 | some k =>
  have h3 := (depIn_mem (rootOf_nodup ws) s k).1 hd
  rw [h] at h3
  rw [h1 s k (by simpa using h3)]
  simp [onceM, hd]
 | none =>
  have h3 := (depIn_none s).1 hd
  rw [h] at h3
  rw [h2 s (by simpa using h3), rd_zeros]
  simp [onceM, hd]
def FlatOk (flat sy : List Int) (L : List (Nat × HT)) : Prop := ∀ x ∈ L, TreeAt flat sy x.2 x.1 ∧ rd flat (x.1 * 4 + 1) = (x.1 : Int) ∧ x.1 * 4 + 4 ≤ flat.length
def ltF' (flat : List Int) (x y : Int) : Bool := decide (rd flat (x.toNat * 4) < rd flat (y.toNat * 4)) || (rd flat (x.toNat * 4) == rd flat (y.toNat * 4) && decide (rd flat (x.toNat * 4 + 1) < rd flat (y.toNat * 4 + 1)))
theorem ltF_iff {flat sy : List Int} {L : List (Nat × HT)} (h : FlatOk flat sy L) {x y : Nat × HT} (hx : x ∈ L) (hy : y ∈ L) : ltF' flat (x.1 : Int) (y.1 : Int) = true ↔ ltT x y := by
 obtain ⟨x1, x2, _⟩ := h x hx
 obtain ⟨y1, y2, _⟩ := h y hy
 unfold ltF' ltT
 rw [Int.toNat_natCast, Int.toNat_natCast, x1.wt, y1.wt, x2, y2]
 simp
theorem FlatOk.more {flat sy : List Int} {L : List (Nat × HT)} (h : FlatOk flat sy L) (r : List Int) : FlatOk (flat ++ r) sy L := fun x hx => by
 obtain ⟨h1, h2, h3⟩ := h x hx
 exact ⟨h1.more r h3, by rw [rd_append_left (by omega)]; exact h2, by rw [List.length_append]; omega⟩
theorem FlatOk.perm {flat sy : List Int} {L M : List (Nat × HT)} (h : FlatOk flat sy L) (hp : ∀ x ∈ M, x ∈ L) : FlatOk flat sy M := fun x hx => h x (hp x hx)
theorem pop_least {flat sy wait : List Int} {M : List (Nat × HT)} {a : Nat × HT} {rest : List (Nat × HT)} (O : Ord (ltF' flat)) (hM : FlatOk flat sy M) (hp : M.Perm (a :: rest)) (ha : ∀ u ∈ rest, ltT a u) (hw : wait.Perm (M.map fun x => (x.1 : Int))) (hh : heapOn (ltF' flat) wait 0 wait.length) :
  rd (popM (ltF' flat) wait) (wait.length - 1) = (a.1 : Int) ∧ ((popM (ltF' flat) wait).take (wait.length - 1)).Perm (rest.map fun x => (x.1 : Int)) ∧ heapOn (ltF' flat) ((popM (ltF' flat) wait).take (wait.length - 1)) 0 ((popM (ltF' flat) wait).take (wait.length - 1)).length := by
 have hl : 0 < wait.length := by rw [hw.length_eq, List.length_map, hp.length_eq]; simp
 obtain ⟨p1, p2, p3, p4⟩ := popM_spec O hl hh
 have hirr : ltF' flat (rd wait 0) (rd wait 0) = false := by
  cases e : ltF' flat (rd wait 0) (rd wait 0)
  ·rfl
  ·exact absurd (O.asy _ _ e) (by rw [e]; decide)
 have hmin := heapOn_least O hh hirr
 have h0 : rd wait 0 ∈ M.map fun x => (x.1 : Int) := by
  rw [← hw.mem_iff, rd_getElem hl]
  exact List.getElem_mem _
 obtain ⟨y, hy, e0⟩ := List.mem_map.1 h0
 have hya : y = a := by
  rcases List.mem_cons.1 (hp.mem_iff.1 hy) with h1 | h1
  ·exact h1
  ·exfalso
   have haM : a ∈ M := hp.mem_iff.2 (by simp)
   have h2 := (ltF_iff hM haM hy).2 (ha y h1)
   have h3 : (a.1 : Int) ∈ wait := by rw [hw.mem_iff]; exact List.mem_map.2 ⟨a, haM, rfl⟩
   obtain ⟨k, hk, e⟩ := List.getElem_of_mem h3
   have h4 := hmin k hk
   rw [rd_getElem hk, e, ← e0, h2] at h4
   cases h4
 subst hya
 refine ⟨by rw [p2, ← e0], ?_, ?_⟩
 ·have h5 : (rd wait 0 :: (popM (ltF' flat) wait).take (wait.length - 1)).Perm ((y.1 : Int) :: rest.map fun x => (x.1 : Int)) := p4.symm.trans (hw.trans (hp.map _))
  rw [← e0] at h5
  exact h5.cons_inv
 ·rw [List.length_take, p1, Nat.min_eq_left (by omega)]
  exact p3
end Go.Proofs.YtdbkbeojedndbaaGreatDoor
