/-
  Texts joined into one file: BackP, BackQ, BackR, InfB.
-/
import Derived.Test.YtendohnkhbgfbaaDoorJBytK13
import Derived.Test.YtendohnkhbgfbaaDoorJBytK3
import Derived.Test.YtendohnkhbgfbaaDoorJBytK19
import Derived.Test.YtendohnkhbgfbaaDoorJBytK14
/-
  What was put is told again: the bits of two codes' lengths tell the lengths (no program).
-/
namespace Go.Proofs.YtendohnkhbgfbaaDoor
open Go.RowKit

/-- These bits stand at the place. -/
def BitsAt (bs : List Int) (p : Nat) (l : List Int) : Prop := ∀ i, i < l.length → ((bitAt bs (p + i) : Nat) : Int) = rd l i
theorem BitsAt.left {bs : List Int} {p : Nat} {a b : List Int} (h : BitsAt bs p (a ++ b)) : BitsAt bs p a := fun i hi => by
  rw [h i (by rw [List.length_append]; omega), rd_appL hi]
theorem BitsAt.right {bs : List Int} {p : Nat} {a b : List Int} (h : BitsAt bs p (a ++ b)) : BitsAt bs (p + a.length) b := fun i hi => by
  rw [Nat.add_assoc, h (a.length + i) (by rw [List.length_append]; omega), rd_appR]
theorem bitsAt_pack {L : List Int} (h : Bit01 L) : BitsAt (packB L) 0 L := fun i hi => by
  rw [Nat.zero_add, bitAt_packB h (by omega)]
  have := h.rd i
  omega
theorem pk_low (x n : Nat) : pk (fun i => x / 2 ^ i % 2) n = x % 2 ^ n := by
  induction n with
  | zero => simp [pk, Nat.mod_one]
  | succ n ih =>
    show pk _ n + (x / 2 ^ n % 2) * 2 ^ n = _
    rw [ih, Nat.mod_pow_succ, Nat.mul_comm]
theorem num_low {bs : List Int} {p x n : Nat} (h : BitsAt bs p (lowOf x n)) (hx : x < 2 ^ n) : numAt bs p n = x := by
  rw [numAt_pk, pk_congr (g := fun i => x / 2 ^ i % 2) (fun i hi => ?_), pk_low, Nat.mod_eq_of_lt hx]
  have h1 := h i (by rw [lowOf_length]; exact hi)
  rw [rd_lowOf hi] at h1
  omega
theorem rd_hiOf {x n i : Nat} (h : i < n) : rd (hiOf x n) i = ((x / 2 ^ (n - 1 - i) % 2 : Nat) : Int) := by
  rw [rd_getElem (by rw [hiOf_length]; exact h)]
  unfold hiOf
  rw [List.getElem_reverse, ← rd_getElem, rd_lowOf (by rw [lowOf_length]; omega), lowOf_length]
theorem code_hi {bs : List Int} {p x n : Nat} (h : BitsAt bs p (hiOf x n)) (hx : x < 2 ^ n) : ∀ k, k ≤ n → codeTo bs p k = x / 2 ^ (n - k) := by
  intro k
  induction k with
  | zero =>
    intro _
    rw [Nat.sub_zero, Nat.div_eq_of_lt hx]
    rfl
  | succ k ih =>
    intro hk
    have h1 := h k (by rw [hiOf_length]; omega)
    rw [rd_hiOf (by omega)] at h1
    show 2 * codeTo bs p k + bitAt bs (p + k) = _
    have e : n - k = n - (k + 1) + 1 := by omega
    rw [ih (by omega), e, Nat.pow_succ, ← Nat.div_div_eq_div_mul]
    rw [show n - 1 - k = n - (k + 1) from by omega] at h1
    omega
theorem first_left (c : List Int) (h0 : rd c 0 = 0) (k : Nat) : firstAt c k + rd c k + leftAt c k = 2 ^ k := by
  induction k with
  | zero =>
    show 0 + rd c 0 + 1 = 1
    omega
  | succ k ih =>
    have e1 : firstAt c (k + 1) = 2 * (firstAt c k + rd c k) := rfl
    have e2 : leftAt c (k + 1) = 2 * leftAt c k - rd c (k + 1) := rfl
    rw [e1, e2, Int.pow_succ]
    omega
theorem left_nn {xs : List Int} (h : rightB xs = true) (k : Nat) (hk : k ≤ 15) : 0 ≤ leftAt (cntOf xs) k := by
  unfold rightB rightOf at h
  simp only [Bool.and_eq_true] at h
  obtain ⟨_, h2, _⟩ := h
  cases k with
  | zero => show (0 : Int) ≤ 1; omega
  | succ k =>
    unfold leftOk at h2
    have := List.all_eq_true.1 h2 k (List.mem_range.2 (by omega))
    simpa using this
theorem code_lt {xs : List Int} (h : rightB xs = true) {s : Nat} (hs : s < xs.length) (h0 : 0 < rd xs s) (h15 : rd xs s ≤ 15) : 0 ≤ codeAt xs s ∧ (codeAt xs s).toNat < 2 ^ (rd xs s).toNat := by
  have h1 := first_left (cntOf xs) (rd_cntOf_zero xs) (rd xs s).toNat
  have h2 := left_nn h (rd xs s).toNat (by omega)
  have h3 := rd_cntOf_pos xs (rd xs s).toNat (by omega) (by omega)
  rw [Int.toNat_of_nonneg (by omega)] at h3
  have h4 := before_lt xs (rd xs s) hs hs rfl
  have h5 := firstAt_le (cntOf xs) xs.length (by omega) (rd_cntOf xs) (rd xs s).toNat (by omega)
  have hc : codeAt xs s = firstAt (cntOf xs) (rd xs s).toNat + (before xs (rd xs s) s : Nat) := by
    unfold codeAt nextCode
    rw [if_pos ⟨h0, h15⟩, Int.toNat_of_nonneg (by omega)]
  have e : ((2 ^ (rd xs s).toNat : Nat) : Int) = (2 : Int) ^ (rd xs s).toNat := by simp
  rw [hc]
  omega
theorem hit_put {xs bs : List Int} {p m s : Nat} (h : rightB xs = true) (hs : s < xs.length) (h0 : 0 < rd xs s) (h15 : rd xs s ≤ 15) (hm : (rd xs s).toNat ≤ m) (hb : BitsAt bs p (hiOf (codeAt xs s).toNat (rd xs s).toNat)) : Hit xs bs p m s := by
  obtain ⟨c0, c1⟩ := code_lt h hs h0 h15
  refine ⟨hs, h0, h15, hm, ?_⟩
  rw [code_hi hb c1 _ (Nat.le_refl _), Nat.sub_self, Nat.pow_zero, Nat.div_one, Int.toNat_of_nonneg c0]
theorem ord_inj : ∀ i, i < 19 → ∀ j, j < 19 → ordL.getD i 0 = ordL.getD j 0 → i = j := by decide
theorem ord_all : ∀ s, s < 19 → ∃ i, i < 19 ∧ ordL.getD i 0 = s := by decide
theorem lensS_at (bs : List Int) (p : Nat) : ∀ k, k ≤ 19 → ∀ i, i < 19 → rd (lensS bs p k) (ordL.getD i 0) = if i < k then ((numAt bs (p + 3 * i) 3 : Nat) : Int) else 0 := by
  intro k
  induction k with
  | zero =>
    intro _ i _
    rw [if_neg (by omega)]
    exact rd_zeros 19 _
  | succ k ih =>
    intro hk i hi
    show rd ((lensS bs p k).set (ordL.getD k 0) _) _ = _
    rw [rd_set (by rw [lensS_length]; exact ordL_lt k)]
    by_cases e : ordL.getD k 0 = ordL.getD i 0
    · have := ord_inj k (by omega) i hi e
      subst this
      rw [if_pos rfl, if_pos (by omega)]
    · rw [if_neg e, ih (by omega) i hi]
      by_cases g : i < k
      · rw [if_pos g, if_pos (by omega)]
      · have : i ≠ k := fun e2 => e (by rw [e2])
        rw [if_neg g, if_neg (by omega)]
theorem lensS_put {bs ls : List Int} {p many : Nat} (hl : ls.length = 19) (hm : many ≤ 19) (hr : ∀ j, 0 ≤ rd ls j ∧ rd ls j ≤ 7) (hb : BitsAt bs p (lows (ordV ls) 3 many)) (h0 : ∀ i, many ≤ i → i < 19 → rd ls (ordL.getD i 0) = 0) : lensS bs p many = ls := by
  apply ext_rd (by rw [lensS_length, hl])
  intro j hj
  rw [lensS_length] at hj
  obtain ⟨i, hi, rfl⟩ := ord_all j hj
  rw [lensS_at bs p many hm i hi]
  split
  · rename_i hlt
    have hbi : BitsAt bs (p + 3 * i) (lowOf (rd (ordV ls) i).toNat 3) := by
      have key : ∀ d, i + 1 + d ≤ many → BitsAt bs p (lows (ordV ls) 3 (i + 1 + d)) → BitsAt bs (p + 3 * i) (lowOf (rd (ordV ls) i).toNat 3) := by
        intro d
        induction d with
        | zero =>
          intro _ h
          rw [Nat.add_zero, lows_succ] at h
          have h2 := h.right
          rwa [lows_length] at h2
        | succ d ih =>
          intro hd h
          rw [show i + 1 + (d + 1) = i + 1 + d + 1 from rfl, lows_succ] at h
          exact ih (by omega) h.left
      have e : i + 1 + (many - (i + 1)) = many := by omega
      exact key (many - (i + 1)) (by omega) (by rw [e]; exact hb)
    have hv := hr (ordL.getD i 0)
    rw [rd_ordV hi] at hbi
    rw [num_low hbi (by
      have : (2 : Nat) ^ 3 = 8 := by decide
      omega), Int.toNat_of_nonneg hv.1]
  · exact (h0 i (by omega) hi).symm
theorem tn_out (l : List Int) (least : Nat) : ∀ d i, tn l least d ≤ i → i < least + d → rd l i = 0 := by
  intro d
  induction d with
  | zero => intro i h1 h2; unfold tn at h1; omega
  | succ d ih =>
    intro i h1 h2
    unfold tn at h1
    split at h1
    · rename_i h0
      rcases Nat.lt_or_ge i (least + d) with g | g
      · exact ih i h1 g
      · rw [show i = least + d from by omega]; exact h0
    · omega
/-- A symbol that is met has a code. -/
theorem wtsIt_pos (its : List Item) (hs : ∀ k, k < its.length → itS its k ≤ 18) : ∀ k, k ≤ its.length → ∀ j, j < k → 0 < rd (wtsIt its k) (itS its j) := by
  intro k
  induction k with
  | zero => intro _ j hj; omega
  | succ k ih =>
    intro hk j hj
    have hw := wtsIt_le its hs k (itS its k) (by omega)
    have h18 := hs k (by omega)
    show 0 < rd ((wtsIt its k).set _ _) _
    rw [rd_set (by rw [wtsIt_length]; omega)]
    split
    · omega
    · rename_i hne
      rcases Nat.lt_or_ge j k with g | g
      · exact ih (by omega) j g
      · rw [show j = k from by omega] at hne
        exact absurd rfl hne
theorem lensIt_pos (its : List Item) (hs : ∀ k, k < its.length → itS its k ≤ 18) {j : Nat} (hj : j < its.length) : 0 < rd (lensIt its) (itS its j) := by
  have h18 := hs j hj
  obtain ⟨wt, e1, e2, e3, e4⟩ := lensOf_is (m := 7) (by omega) (fun x hx => (wtsIt_nn its hs its.length (Nat.le_refl _) x hx).1) (lensIt_few its)
  unfold lensIt
  rw [e1]
  have h1 := onceM_pos wt (itS its j) (by rw [e2, wtsIt_length]; omega)
  exact h1.2.2 ((e3 _).2 (wtsIt_pos its hs its.length (Nat.le_refl _) j hj))
theorem lensIt_right (its : List Item) (hs : ∀ k, k < its.length → itS its k ≤ 18) (h0 : 0 < its.length) : rightB (lensIt its) = true := by
  obtain ⟨wt, e1, e2, e3, e4⟩ := lensOf_is (m := 7) (by omega) (fun x hx => (wtsIt_nn its hs its.length (Nat.le_refl _) x hx).1) (lensIt_few its)
  unfold lensIt
  rw [e1]
  refine rightB_once wt ?_ (fun x hx => ?_)
  · have hp := wtsIt_pos its hs its.length (Nat.le_refl _) 0 h0
    have h18 := hs 0 h0
    have hm : itS its 0 ∈ posTo wt wt.length := mem_posTo.2 ⟨by rw [e2, wtsIt_length]; omega, (e3 _).2 hp⟩
    exact List.length_pos_of_mem hm
  · have := e4 x hx
    omega
end Go.Proofs.YtendohnkhbgfbaaDoor
/-
  What was put is told again, part two: items, and all of it (no program).
-/
namespace Go.Proofs.YtendohnkhbgfbaaDoor
open Go.RowKit

theorem bitsIt_front {bs ls : List Int} {its : List Item} {p : Nat} {k : Nat} : ∀ d, BitsAt bs p (bitsIt ls its (k + d)) → BitsAt bs p (bitsIt ls its k) := by
  intro d
  induction d with
  | zero => exact id
  | succ d ih =>
    intro h
    rw [show k + (d + 1) = k + d + 1 from rfl, bitsIt_succ, List.append_assoc] at h
    exact ih h.left
theorem bitsIt_mono {ls : List Int} {its : List Item} {k : Nat} (d : Nat) : (bitsIt ls its k).length ≤ (bitsIt ls its (k + d)).length := by
  induction d with
  | zero => exact Nat.le_refl _
  | succ d ih =>
    rw [show k + (d + 1) = k + d + 1 from rfl, bitsIt_succ, List.length_append, List.length_append]
    omega
theorem take_rep {A : List Int} {i : Nat} {v : Int} : ∀ st, i + st ≤ A.length → (∀ j, j < st → rd A (i + j) = v) → A.take (i + st) = A.take i ++ List.replicate st v := by
  intro st
  induction st with
  | zero => intro _ _; simp
  | succ st ih =>
    intro h hv
    rw [show i + (st + 1) = i + st + 1 from rfl, take_next A i st v (by omega) (hv st (by omega)), ih (by omega) (fun j hj => hv j (by omega)), List.replicate_succ', List.append_assoc]
structure PutBits (A bs : List Int) (T base : Nat) : Prop where
  rng : ∀ j, j < A.length → 0 ≤ rd A j ∧ rd A j ≤ 15
  bits : BitsAt bs base (bitsIt (lensIt (items A)) (items A) (items A).length)
  room : base + (bitsIt (lensIt (items A)) (items A) (items A).length).length ≤ T
theorem listS_items {A bs : List Int} {T base : Nat} (H : PutBits A bs T base) : ∀ (f i k : Nat) (pre : List Item), items A = pre ++ itemsFrom A A.length i → k = pre.length → i ≤ A.length → A.length - i < f →
    listS (lensIt (items A)) bs T A.length f (base + (bitsIt (lensIt (items A)) (items A) k).length) (A.take i) = some (A, base + (bitsIt (lensIt (items A)) (items A) (items A).length).length) := by
  have hok : ∀ it ∈ items A, ItemOk it := items_ok H.rng
  have hs18 : ∀ k, k < (items A).length → itS (items A) k ≤ 18 := fun k hk => (it_at hok hk).2.1
  have hll := lensIt_length (items A)
  intro f
  induction f with
  | zero => intro i k pre _ _ _ h; omega
  | succ f ih =>
    intro i k pre hpre hk hi hf
    have hlen : (A.take i).length = i := by rw [List.length_take]; omega
    rcases Nat.lt_or_ge i A.length with hlt | hge
    · have hst := itemAt_step A i hlt
      have halike := itemAt_alike A i hlt
      have hstep := itemsFrom_step A i hlt
      obtain ⟨it, st, hit⟩ : ∃ it st, itemAt A i = (it, st) := ⟨_, _, rfl⟩
      rw [hit] at hst halike hstep
      simp only at hst halike hstep
      have hpre2 : items A = (pre ++ [it]) ++ itemsFrom A A.length (i + st) := by rw [hpre, hstep]; simp
      have hkl : k < (items A).length := by rw [hpre, hstep, List.length_append, List.length_cons, hk]; omega
      have hke : (items A)[k] = it := by
        have h9 : (items A)[k]? = some it := by
          rw [hpre, hstep, hk, List.getElem?_append_right (Nat.le_refl _), Nat.sub_self]
          rfl
        rw [List.getElem?_eq_getElem hkl] at h9
        exact Option.some.inj h9
      obtain ⟨hie, h18, h7, h127⟩ := it_at hok hkl
      rw [hke] at hie
      have hpos := lensIt_pos (items A) hs18 hkl
      have hrng := lensIt_rng (items A) hs18 (itS (items A) k)
      have hright := lensIt_right (items A) hs18 (by omega)
      have hsucc := bitsIt_succ (lensIt (items A)) (items A) k
      have hbk : BitsAt bs base (bitsIt (lensIt (items A)) (items A) (k + 1)) := bitsIt_front ((items A).length - (k + 1)) (by rw [show k + 1 + ((items A).length - (k + 1)) = (items A).length from by omega]; exact H.bits)
      have hmono := bitsIt_mono (ls := lensIt (items A)) (its := items A) (k := k + 1) ((items A).length - (k + 1))
      rw [show k + 1 + ((items A).length - (k + 1)) = (items A).length from by omega] at hmono
      have hroom := H.room
      obtain ⟨S, hS⟩ : ∃ S, S = itS (items A) k := ⟨_, rfl⟩
      obtain ⟨B, hB⟩ : ∃ B, B = itB (items A) k := ⟨_, rfl⟩
      obtain ⟨E, hE⟩ : ∃ E, E = itE (items A) k := ⟨_, rfl⟩
      rw [← hS, ← hB, ← hE] at hie hsucc
      rw [← hS] at h18 hpos hrng
      rw [← hB] at h7
      rw [← hE] at h127
      have hcode : rd (codesOf (lensIt (items A))) S = codeAt (lensIt (items A)) S := rd_codesOf _ S (by omega)
      rw [hcode] at hsucc
      obtain ⟨q, hq⟩ : ∃ q, q = base + (bitsIt (lensIt (items A)) (items A) k).length := ⟨_, rfl⟩
      obtain ⟨Ln, hLn⟩ : ∃ Ln, Ln = (rd (lensIt (items A)) S).toNat := ⟨_, rfl⟩
      have hq2 : base + (bitsIt (lensIt (items A)) (items A) (k + 1)).length = q + Ln + B := by
        rw [hsucc, List.length_append, List.length_append, hiOf_length, lowOf_length, ← hLn, hq]
        omega
      rw [hsucc] at hbk
      have hb1 := hbk.left.right
      have hb2 := hbk.right
      rw [← hLn] at hb1 hb2
      rw [List.length_append, hiOf_length, ← Nat.add_assoc, ← hq] at hb2
      rw [← hq] at hb1
      have hhit : Hit (lensIt (items A)) bs q (T - q) S := hit_put hright (by omega) hpos (by omega) (by omega) (by rw [← hLn]; exact hb1)
      have hn0 : ¬ A.length ≤ (A.take i).length := by omega
      rw [← hq]
      have next := ih (i + st) (k + 1) (pre ++ [it]) hpre2 (by rw [List.length_append, hk]; rfl) (by omega) (by omega)
      rw [hq2] at next
      have many : ∀ least size : Nat, 16 ≤ S → st = least + E → B = size → leastS S = least → sizeS S = size → E < 2 ^ size → (S = 16 → 0 < i) → (∀ j, j < st → rd A (i + j) = valueS (A.take i) S) → listS (lensIt (items A)) bs T A.length (f + 1) q (A.take i) = some (A, base + (bitsIt (lensIt (items A)) (items A) (items A).length).length) := by
        intro least size h16 hst2 hBs hls hss hE2 h16i hval
        have hnum : numAt bs (q + Ln) size = E := by
          rw [hBs] at hb2
          exact num_low hb2 hE2
        have hmany : manyS bs (q + Ln) S = st := by
          unfold manyS
          rw [hls, hss, hnum, hst2]
        have hmo := listS_more (f := f) hn0 hhit (by omega) (fun h => by have := h16i h.1; have := h.2; omega) (by rw [← hLn, hss]; omega) (by rw [← hLn, hmany, hlen]; omega)
        rw [← hLn, hss, hmany, ← take_rep st (by omega) hval, ← hBs] at hmo
        rw [hmo]
        exact next
      rcases itemAt_kind A i with ⟨e, h1, h2, h3⟩ | ⟨e, h1, h2, h3⟩ | ⟨e, h1, h2, h3, h4⟩ | h1
      · rw [hit] at h1
        simp only [Prod.mk.injEq] at h1
        obtain ⟨hi1, hi2⟩ := h1
        rw [hi1] at hie
        simp only [Item.mk.injEq] at hie
        obtain ⟨a1, a2, a3⟩ := hie
        have eS : S = 18 := by omega
        have eB : B = 7 := by omega
        have eE : E = e := by omega
        exact many 11 7 (by omega) (by omega) eB (by rw [eS]; rfl) (by rw [eS]; rfl) (by
          have : (2 : Nat) ^ 7 = 128 := by decide
          omega) (fun h => by omega) (fun j hj => by
          rw [halike j hj, h3, eS]
          rfl)
      · rw [hit] at h1
        simp only [Prod.mk.injEq] at h1
        obtain ⟨hi1, hi2⟩ := h1
        rw [hi1] at hie
        simp only [Item.mk.injEq] at hie
        obtain ⟨a1, a2, a3⟩ := hie
        have eS : S = 17 := by omega
        have eB : B = 3 := by omega
        have eE : E = e := by omega
        exact many 3 3 (by omega) (by omega) eB (by rw [eS]; rfl) (by rw [eS]; rfl) (by
          have : (2 : Nat) ^ 3 = 8 := by decide
          omega) (fun h => by omega) (fun j hj => by
          rw [halike j hj, h3, eS]
          rfl)
      · rw [hit] at h1
        simp only [Prod.mk.injEq] at h1
        obtain ⟨hi1, hi2⟩ := h1
        rw [hi1] at hie
        simp only [Item.mk.injEq] at hie
        obtain ⟨a1, a2, a3⟩ := hie
        have eS : S = 16 := by omega
        have eB : B = 2 := by omega
        have eE : E = e := by omega
        exact many 3 2 (by omega) (by omega) eB (by rw [eS]; rfl) (by rw [eS]; rfl) (by
          have : (2 : Nat) ^ 2 = 4 := by decide
          omega) (fun _ => h3) (fun j hj => by
          rw [halike j hj, ← h4, eS]
          show _ = rd (A.take i) ((A.take i).length - 1)
          rw [hlen, rd_takeQ A i (i - 1) (by omega)])
      · rw [hit] at h1
        simp only [Prod.mk.injEq] at h1
        obtain ⟨hi1, hi2⟩ := h1
        rw [hi1] at hie
        simp only [Item.mk.injEq] at hie
        obtain ⟨a1, a2, a3⟩ := hie
        have hA := H.rng i hlt
        have eB : B = 0 := by omega
        have hlo := listS_low (f := f) hn0 hhit (by omega)
        rw [hlo, ← hLn]
        have ht : A.take (i + st) = A.take i ++ [(S : Int)] := by
          rw [hi2, ← a1]
          exact take_next A i 0 (rd A i) (by omega) (by rw [Nat.add_zero])
        rw [ht, eB, Nat.add_zero] at next
        exact next
    · obtain rfl : i = A.length := by omega
      have hkl : k = (items A).length := by rw [hpre, itemsFrom_end A A.length A.length (Nat.le_refl _), List.append_nil, hk]
      rw [hkl, listS_done (by omega) (by rw [hlen]; exact Nat.le_refl _), List.take_length]
end Go.Proofs.YtendohnkhbgfbaaDoor
/-
  What was put is told again, part three: getS of putS (no program).
-/
namespace Go.Proofs.YtendohnkhbgfbaaDoor
open Go.RowKit

theorem getS_is {bs : List Int} {T p a d m : Nat} (h1 : p + 14 + 3 * (m + 4) ≤ T) (ha : numAt bs p 5 = a) (hd : numAt bs (p + 5) 5 = d) (hm : numAt bs (p + 10) 4 = m) (h2 : a ≤ 29) (h3 : d ≤ 29) (h4 : rightB (lensS bs (p + 14) (m + 4)) = true) :
    getS bs T p = match listS (lensS bs (p + 14) (m + 4)) bs T (a + 257 + (d + 1)) (a + 257 + (d + 1) + 1) (p + 14 + 3 * (m + 4)) [] with
      | none => none
      | some (l, q) => if rd l 256 = 0 then none else some (l.take (a + 257), l.drop (a + 257), q) := by
  subst ha hd hm
  unfold getS
  rw [if_neg (by omega), if_neg (by omega), if_neg (by omega), if_neg (by rw [h4]; decide)]
  rfl
theorem getS_put {X Y bs : List Int} {T p : Nat} (hX : 257 ≤ X.length) (hX2 : X.length ≤ 286) (hY : 1 ≤ Y.length) (hY2 : Y.length ≤ 30) (hx15 : ∀ j, 0 ≤ rd X j ∧ rd X j ≤ 15) (hy15 : ∀ j, 0 ≤ rd Y j ∧ rd Y j ≤ 15) (hb : BitsAt bs p (putS X Y)) (hT : p + (putS X Y).length ≤ T) :
    getS bs T p = if rd X 256 = 0 then none else some (X.take (tn X 257 (X.length - 257)), Y.take (tn Y 1 (Y.length - 1)), p + (putS X Y).length) := by
  have ta := tn_rng X 257 (X.length - 257)
  have tb := tn_rng Y 1 (Y.length - 1)
  obtain ⟨a, ha⟩ : ∃ a, a = tn X 257 (X.length - 257) := ⟨_, rfl⟩
  obtain ⟨b, hbb⟩ : ∃ b, b = tn Y 1 (Y.length - 1) := ⟨_, rfl⟩
  obtain ⟨A, hA⟩ : ∃ A, A = X.take a ++ Y.take b := ⟨_, rfl⟩
  have hits : itsOf X Y = items A := by unfold itsOf; rw [← ha, ← hbb, hA]
  have hAl : A.length = a + b := by rw [hA, List.length_append, List.length_take, List.length_take]; omega
  have hrng : ∀ j, j < A.length → 0 ≤ rd A j ∧ rd A j ≤ 15 := fun j hj => by
    rw [hA]
    rcases Nat.lt_or_ge j a with g | g
    · rw [rd_appL (by rw [List.length_take]; omega), rd_takeQ X a j g]
      exact hx15 j
    · obtain ⟨i, rfl⟩ : ∃ i, j = (X.take a).length + i := ⟨j - (X.take a).length, by rw [List.length_take]; omega⟩
      rw [List.length_take] at hj
      rw [rd_appR, rd_takeQ Y b i (by omega)]
      exact hy15 i
  have hok : ∀ it ∈ items A, ItemOk it := items_ok hrng
  have hs18 : ∀ k, k < (items A).length → itS (items A) k ≤ 18 := fun k hk => (it_at hok hk).2.1
  have hpos : 0 < (items A).length := by
    have h1 := itemsFrom_step A 0 (by omega)
    have h2 : items A = itemsFrom A A.length 0 := rfl
    rw [h2, h1, List.length_cons]
    omega
  have hright := lensIt_right (items A) hs18 hpos
  have hlr := lensIt_rng (items A) hs18
  have hll := lensIt_length (items A)
  have tm := tn_rng (ordV (lensIt (items A))) 4 15
  obtain ⟨mv, hmv⟩ : ∃ mv, mv = tn (ordV (lensIt (items A))) 4 15 := ⟨_, rfl⟩
  have hput : putS X Y = lowOf (a - 257) 5 ++ (lowOf (b - 1) 5 ++ (lowOf (mv - 4) 4 ++ (lows (ordV (lensIt (items A))) 3 mv ++ bitsIt (lensIt (items A)) (items A) (items A).length))) := by
    unfold putS manyOf headS
    rw [hits, ← ha, ← hbb, ← hmv]
    simp only [List.append_assoc]
  rw [← ha] at ta
  rw [← hbb] at tb
  rw [← hmv] at tm
  rw [hput] at hb
  have b1 := hb.left
  have b2 := hb.right.left
  have b3 := hb.right.right.left
  have b4 := hb.right.right.right.left
  have b5 := hb.right.right.right.right
  rw [lowOf_length] at b2 b3 b4 b5
  rw [lowOf_length] at b3 b4 b5
  rw [lowOf_length] at b4 b5
  rw [lows_length] at b5
  have p5 : (2 : Nat) ^ 5 = 32 := by decide
  have p4 : (2 : Nat) ^ 4 = 16 := by decide
  have n1 := num_low b1 (by omega)
  have n2 := num_low b2 (by omega)
  have n3 := num_low (p := p + 10) (x := mv - 4) (n := 4) (by rw [show p + 10 = p + 5 + 5 from by omega]; exact b3) (by omega)
  have hlen : (putS X Y).length = 14 + 3 * mv + (bitsIt (lensIt (items A)) (items A) (items A).length).length := by
    rw [hput]
    simp only [List.length_append, lowOf_length, lows_length]
    omega
  have h0 : ∀ i, mv ≤ i → i < 19 → rd (lensIt (items A)) (ordL.getD i 0) = 0 := fun i h1 h2 => by
    rw [← rd_ordV h2]
    exact tn_out (ordV (lensIt (items A))) 4 15 i (by rw [← hmv]; exact h1) (by omega)
  have b4' : BitsAt bs (p + 14) (lows (ordV (lensIt (items A))) 3 mv) := by
    rw [show p + 14 = p + 5 + 5 + 4 from by omega]
    exact b4
  have hlens := lensS_put hll (by omega) hlr b4' h0
  have em : mv - 4 + 4 = mv := by omega
  have ea : a - 257 + 257 = a := by omega
  have eb : b - 1 + 1 = b := by omega
  have hget := getS_is (bs := bs) (T := T) (p := p) (a := a - 257) (d := b - 1) (m := mv - 4) (by omega) n1 n2 n3 (by omega) (by omega) (by rw [em, hlens]; exact hright)
  rw [em, ea, eb, hlens] at hget
  have hPB : PutBits A bs T (p + 14 + 3 * mv) := ⟨hrng, by rw [show p + 14 + 3 * mv = p + 5 + 5 + 4 + 3 * mv from by omega]; exact b5, by omega⟩
  have hlist := listS_items hPB (a + b + 1) 0 0 [] rfl rfl (by omega) (by omega)
  rw [show bitsIt (lensIt (items A)) (items A) 0 = [] from rfl, List.take_zero, List.length_nil, hAl] at hlist
  simp only [Nat.add_zero] at hlist
  rw [hget, hlist]
  have h256 : rd A 256 = rd X 256 := by
    rw [hA, rd_appL (by rw [List.length_take]; omega), rd_takeQ X a 256 (by omega)]
  have hta : A.take a = X.take a := by
    rw [hA, List.take_append_of_le_length (by rw [List.length_take]; omega), List.take_take, Nat.min_self]
  have htb : A.drop a = Y.take b := by
    rw [hA]
    have e : (X.take a).length = a := by rw [List.length_take]; omega
    exact List.drop_left' e
  simp only
  rw [h256, hta, htb, hlen, ← ha, ← hbb]
  have eq1 : p + 14 + 3 * mv + (bitsIt (lensIt (items A)) (items A) (items A).length).length = p + (14 + 3 * mv + (bitsIt (lensIt (items A)) (items A) (items A).length).length) := by omega
  rw [eq1]
end Go.Proofs.YtendohnkhbgfbaaDoor
/-
  Tokens' bits are told again (no program).
-/
namespace Go.Proofs.YtendohnkhbgfbaaDoor
open Go.RowKit

theorem iter_det {σ ρ : Type} {step : σ → σ ⊕ ρ} {n m : Nat} {s : σ} {r r' : ρ} (h : iter step n s = some r) (h' : iter step m s = some r') : r = r' := by
  have h1 := iter_mono h (n + m) (by omega)
  rw [iter_mono h' (n + m) (by omega)] at h1
  cases h1
  rfl
theorem code_total {bs : List Int} {T : Nat} {most : Int} {xs ys : List Int} (p : Nat × List Int) : ∃ r, iter (codeStep bs T most xs ys) (T + 1) p = some r := by
  refine iter_total (fun s => T - s.1) (fun s s' h => ?_) _ _ (by omega)
  obtain ⟨q, o⟩ := s
  obtain ⟨q2, o2⟩ := s'
  have h1 := (codeStep_inl h).1
  show T - q2 < T - q
  cases hs : symN xs bs T q with
  | error e => rw [code_err hs] at h; cases h
  | ok p =>
    have h2 := (symN_hit (show symN xs bs T q = .ok (p.1, p.2) from hs)).1
    have h3 := h2.2.1
    have h4 := h2.2.2.2.1
    omega
theorem coded_of {bs : List Int} {T : Nat} {most : Int} {xs ys : List Int} {q n : Nat} {o : List Int} {r : Res} (hx : rightB xs = true) (hy : rightB ys = true ∨ ys.any (fun y => y != 0) = false) (h : iter (codeStep bs T most xs ys) n (q, o) = some r) : codedS bs T most xs ys q o = r := by
  unfold codedS
  rw [if_neg (by rw [hx]; decide), if_neg (fun h9 => by rcases hy with h8 | h8 <;> simp [h8] at h9)]
  obtain ⟨r2, h2⟩ := code_total (bs := bs) (T := T) (most := most) (xs := xs) (ys := ys) (q, o)
  rw [h2, iter_det h h2]
  rfl
theorem sym_back {a bs : List Int} {T q s : Nat} (hr : rightB a = true) (hs : s < a.length) (h0 : 0 < rd a s) (h15 : rd a s ≤ 15) (hT : q + (rd a s).toNat ≤ T) (hb : BitsAt bs q (symCode a s)) : symN a bs T q = .ok (s, q + (rd a s).toNat) := by
  unfold symCode at hb
  rw [rd_codesOf a s hs] at hb
  exact symN_ok (hit_put hr hs h0 h15 (by omega) hb)
theorem take_rd {b : List Int} {i j : Nat} (h : j < i) : rd (b.take i) j = rd b j := rd_takeQ b i j h
theorem takeB_next {b : List Int} {i : Nat} (h : i < b.length) : b.take (i + 1) = b.take i ++ [rd b i] := by rw [List.take_succ_eq_append_getElem h, rd_getElem h]
theorem pre_next {pre b : List Int} {i : Nat} (h : i < b.length) : pre ++ b.take (i + 1) = (pre ++ b.take i) ++ [rd b i] := by rw [takeB_next h, List.append_assoc]
theorem pre_len {pre b : List Int} {i : Nat} (h : i ≤ b.length) : (pre ++ b.take i).length = pre.length + i := by rw [List.length_append, List.length_take]; omega
theorem copy_back {pre b : List Int} {i d : Nat} (hd1 : 1 ≤ d) (hd : d ≤ i) : ∀ l, i + l ≤ b.length → (∀ j, j < l → rd b (i + j) = rd b (i - d + j)) → copyT d l (pre ++ b.take i) = pre ++ b.take (i + l) := by
  intro l
  induction l with
  | zero => intro _ _; rfl
  | succ l ih =>
    intro hl h
    have hlen : (pre ++ b.take (i + l)).length = pre.length + (i + l) := pre_len (by omega)
    rw [copyT_succ, ih (by omega) (fun j hj => h j (by omega)), hlen, show pre.length + (i + l) - d = pre.length + (i - d + l) by omega, rd_appR, take_rd (by omega), ← h l (by omega), ← pre_next (by omega)]
    rfl
theorem lit_back {a ys bs pre b : List Int} {T q i c : Nat} {most : Int} (hr : rightB a = true) (hc : rd b i = c) (hc2 : c < 256) (hs : c < a.length) (h0 : 0 < rd a c) (h15 : rd a c ≤ 15) (hT : q + (rd a c).toNat ≤ T) (hb : BitsAt bs q (symCode a c)) (hi : i < b.length) (hm : (pre.length : Int) + i + 1 ≤ most) : codeStep bs T most a ys (q, pre ++ b.take i) = .inl (q + (rd a c).toNat, pre ++ b.take (i + 1)) := by
  have hlen : (pre ++ b.take i).length = pre.length + i := pre_len (by omega)
  refine code_lit_ok (sym_back hr hs h0 h15 hT hb) hc2 (addR_ok ?_)
  unfold addS
  rw [hlen, show rightT (c : Int) 0 0 (pre.length + i) = true from rfl, if_neg (by decide), if_neg (by omega), show addT (c : Int) 0 0 (pre ++ b.take i) = (pre ++ b.take i) ++ [(c : Int)] from rfl, pre_next hi, hc]
theorem match_back {a ys bs pre b : List Int} {T q i : Nat} {l d : Int} {most : Int} (hr : rightB a = true) (hy : rightB ys = true) (hl : 3 ≤ l ∧ l ≤ 258) (hd : 1 ≤ d ∧ d ≤ 32768) (hdi : d ≤ i)
    (ha1 : (symS 257 lens l).toNat < a.length) (ha0 : 0 < rd a (symS 257 lens l).toNat) (ha15 : rd a (symS 257 lens l).toNat ≤ 15) (hb1 : (symS 0 dists d).toNat < ys.length) (hb0 : 0 < rd ys (symS 0 dists d).toNat) (hb15 : rd ys (symS 0 dists d).toNat ≤ 15)
    (hT : q + (tokBits a ys (0, l, d)).length ≤ T) (hb : BitsAt bs q (tokBits a ys (0, l, d))) (hi : i + l.toNat ≤ b.length) (hc : ∀ j, j < l.toNat → rd b (i + j) = rd b (i - d.toNat + j)) (hm : (pre.length : Int) + i + l ≤ most) :
    codeStep bs T most a ys (q, pre ++ b.take i) = .inl (q + (tokBits a ys (0, l, d)).length, pre ++ b.take (i + l.toNat)) := by
  have hlen : (pre ++ b.take i).length = pre.length + i := pre_len (by omega)
  have e : tokBits a ys (0, l, d) = symCode a (symS 257 lens l).toNat ++ lowOf (symX lens l).toNat (symB lens l).toNat ++ (symCode ys (symS 0 dists d).toNat ++ lowOf (symX dists d).toNat (symB dists d).toNat) := by
    unfold tokBits
    rw [if_neg (show ¬ (0, l, d).2.1 = 0 by show ¬ l = 0; omega)]
  rw [e] at hT hb ⊢
  have n1 : (symCode a (symS 257 lens l).toNat).length = (rd a (symS 257 lens l).toNat).toNat := by unfold symCode; rw [hiOf_length]
  have n2 : (symCode ys (symS 0 dists d).toNat).length = (rd ys (symS 0 dists d).toNat).toNat := by unfold symCode; rw [hiOf_length]
  have b1 := hb.left.left
  have b2 := hb.left.right
  have b3 := hb.right.left
  have b4 := hb.right.right
  rw [List.length_append, lowOf_length, n1] at b3 b4
  rw [n2] at b4
  rw [n1] at b2
  simp only [List.length_append, lowOf_length, n1, n2] at hT ⊢
  have r1 := symL_range l hl.1 hl.2
  have r2 := symD_range d hd.1 hd.2
  have x1 := symXL_lt l hl.1 hl.2
  have x2 := symXD_lt d hd.1 hd.2
  obtain ⟨k1, hk1⟩ : ∃ k, k = lastLe lens l lens.length := ⟨_, rfl⟩
  obtain ⟨k2, hk2⟩ : ∃ k, k = lastLe dists d dists.length := ⟨_, rfl⟩
  have s1 : (symS 257 lens l).toNat = 257 + k1 := by unfold symS; rw [← hk1]; omega
  have s2 : (symS 0 dists d).toNat = k2 := by unfold symS; rw [← hk2]; omega
  have v1 : rowL lens k1 = l - symX lens l := by unfold symX; rw [← hk1]; omega
  have v2 : rowL dists k2 = d - symX dists d := by unfold symX; rw [← hk2]; omega
  have w1 : rowB lens k1 = symB lens l := by unfold symB; rw [← hk1]
  have w2 : rowB dists k2 = symB dists d := by unfold symB; rw [← hk2]
  obtain ⟨X1, hX1⟩ : ∃ x : Nat, symX lens l = x := ⟨(symX lens l).toNat, by omega⟩
  obtain ⟨X2, hX2⟩ : ∃ x : Nat, symX dists d = x := ⟨(symX dists d).toNat, by omega⟩
  obtain ⟨N1, hN1⟩ : ∃ x : Nat, symB lens l = x := ⟨(symB lens l).toNat, by omega⟩
  obtain ⟨N2, hN2⟩ : ∃ x : Nat, symB dists d = x := ⟨(symB dists d).toNat, by omega⟩
  rw [hX1, hN1] at x1 b2
  rw [hX2, hN2] at x2 b4
  rw [hN1] at b3 b4 hT ⊢
  rw [hN2] at hT ⊢
  rw [hX1] at v1
  rw [hX2] at v2
  rw [hN1] at w1
  rw [hN2] at w2
  simp only [Int.toNat_natCast] at x1 x2 b2 b3 b4 hT ⊢
  have m1 : numAt bs (q + (rd a (symS 257 lens l).toNat).toNat) N1 = X1 := num_low b2 (by
    have : ((2 ^ N1 : Nat) : Int) = (2 : Int) ^ N1 := by simp
    omega)
  obtain ⟨q1, hq1⟩ : ∃ q1, q1 = q + (rd a (symS 257 lens l).toNat).toNat := ⟨_, rfl⟩
  rw [← hq1] at m1 b2
  have p3 : q + ((rd a (symS 257 lens l).toNat).toNat + N1) = q1 + N1 := by omega
  rw [p3] at b3 b4
  obtain ⟨q2, hq2⟩ : ∃ q2, q2 = q1 + N1 + (rd ys (symS 0 dists d).toNat).toNat := ⟨_, rfl⟩
  rw [← hq2] at b4
  have m2 : numAt bs q2 N2 = X2 := num_low b4 (by
    have : ((2 ^ N2 : Nat) : Int) = (2 : Int) ^ N2 := by simp
    omega)
  have h1 := sym_back hr ha1 ha0 ha15 (T := T) (q := q) (by omega) b1
  have h2 := sym_back hy hb1 hb0 hb15 (T := T) (q := q1 + N1) (by omega) b3
  rw [← hq1] at h1
  rw [← hq2] at h2
  have hend : q + ((rd a (symS 257 lens l).toNat).toNat + N1 + ((rd ys (symS 0 dists d).toNat).toNat + N2)) = q2 + N2 := by omega
  rw [hend]
  refine code_match_ok h1 (by omega) ?_
  unfold matchS
  rw [if_neg (by omega), show (symS 257 lens l).toNat - 257 = k1 by omega, w1, v1, Int.toNat_natCast, matchL_ok (by omega), m1, show l - (X1 : Int) + (X1 : Int) = l by omega]
  rw [distS_ok hy h2 (by omega), s2, w2, v2, Int.toNat_natCast, distL_ok (by omega), m2, show d - (X2 : Int) + (X2 : Int) = d by omega]
  refine addR_ok ?_
  unfold addS
  have hrt : rightT 0 l d (pre.length + i) = true := by
    unfold rightT
    rw [if_neg (by omega)]
    exact decide_eq_true ⟨rfl, hl.1, hl.2, hd.1, hd.2, by omega⟩
  rw [hlen, hrt, if_neg (by decide), if_neg (by omega)]
  unfold addT
  rw [if_neg (by omega), copy_back (by omega) (by omega) l.toNat hi hc]
/-- A symbol that has a code. -/
def Cod (a : List Int) (s : Nat) : Prop := s < a.length ∧ 0 < rd a s ∧ rd a s ≤ 15
/-- A token whose symbols have codes. -/
def TokC (a ys : List Int) (t : Int × Int × Int) : Prop := (t.2.1 = 0 → Cod a t.1.toNat) ∧ (t.2.1 ≠ 0 → rightB ys = true ∧ Cod a (symS 257 lens t.2.1).toNat ∧ Cod ys (symS 0 dists t.2.2).toNat)
theorem toks_back {a ys bs pre b : List Int} {T : Nat} {most : Int} (hr : rightB a = true) (hb : ∀ j, j < b.length → 0 ≤ rd b j ∧ rd b j ≤ 255) (hend : Cod a 256) (hm : (pre.length : Int) + b.length ≤ most) : ∀ f i q, b.length - i ≤ f → i ≤ b.length → (∀ t ∈ pressFrom b f i, TokC a ys t) →
    BitsAt bs q ((pressFrom b f i).flatMap (tokBits a ys) ++ symCode a 256) → q + ((pressFrom b f i).flatMap (tokBits a ys) ++ symCode a 256).length ≤ T →
    ∃ n, iter (codeStep bs T most a ys) n (q, pre ++ b.take i) = some (.ok (q + ((pressFrom b f i).flatMap (tokBits a ys) ++ symCode a 256).length, pre ++ b)) := by
  have hfin : ∀ f i q, b.length ≤ i → BitsAt bs q ((pressFrom b f i).flatMap (tokBits a ys) ++ symCode a 256) → q + ((pressFrom b f i).flatMap (tokBits a ys) ++ symCode a 256).length ≤ T → ∃ n, iter (codeStep bs T most a ys) n (q, pre ++ b.take i) = some (.ok (q + ((pressFrom b f i).flatMap (tokBits a ys) ++ symCode a 256).length, pre ++ b)) := by
    intro f i q hi h1 h2
    rw [pressFrom_end b f i hi] at h1 h2 ⊢
    simp only [List.flatMap_nil, List.nil_append] at h1 h2 ⊢
    have hl : (symCode a 256).length = (rd a 256).toNat := by unfold symCode; rw [hiOf_length]
    rw [hl] at h2 ⊢
    rw [List.take_of_length_le hi]
    exact ⟨1, iter_inr (code_end (sym_back hr hend.1 hend.2.1 hend.2.2 h2 h1)) 0⟩
  intro f
  induction f with
  | zero => intro i q hf hi _ h1 h2; exact hfin 0 i q (by omega) h1 h2
  | succ f ih =>
    intro i q hf hi ht h1 h2
    rcases Nat.lt_or_ge i b.length with hlt | hge
    · by_cases h3 : (bestM b i).1 < 3
      · have e : pressFrom b (f + 1) i = (rd b i, 0, 0) :: pressFrom b f (i + 1) := by rw [pressFrom, if_pos hlt, if_pos h3]
        rw [e] at ht h1 h2 ⊢
        have hbi := hb i hlt
        obtain ⟨c, hc⟩ : ∃ c : Nat, rd b i = c := ⟨(rd b i).toNat, by omega⟩
        have htc := (ht _ (List.mem_cons_self ..)).1 rfl
        rw [hc] at hbi htc h1 h2 ⊢
        rw [show ((c : Int), (0 : Int), (0 : Int)).1.toNat = c from Int.toNat_natCast c] at htc
        have et : tokBits a ys ((c : Int), 0, 0) = symCode a c := by
          unfold tokBits
          rw [if_pos rfl]
          rw [show ((c : Int), (0 : Int), (0 : Int)).1.toNat = c from Int.toNat_natCast c]
        have hl : (symCode a c).length = (rd a c).toNat := by unfold symCode; rw [hiOf_length]
        rw [List.flatMap_cons, et, List.append_assoc] at h1 h2 ⊢
        rw [List.length_append, hl] at h2 ⊢
        have h5 := h1.right
        rw [hl] at h5
        have hs := lit_back (pre := pre) (b := b) (bs := bs) (ys := ys) (most := most) hr hc (by omega) htc.1 htc.2.1 htc.2.2 (T := T) (by omega) h1.left hlt (by omega)
        obtain ⟨n, hn⟩ := ih (i + 1) (q + (rd a c).toNat) (by omega) (by omega) (fun t h => ht t (List.mem_cons_of_mem _ h)) h5 (by omega)
        refine ⟨n + 1, ?_⟩
        rw [iter_inl hs, hn, Nat.add_assoc]
      · have e : pressFrom b (f + 1) i = (0, ((bestM b i).1 : Int), ((bestM b i).2 : Int)) :: pressFrom b f (i + (bestM b i).1) := by rw [pressFrom, if_pos hlt, if_neg h3]
        have hbr := bestM_rng (b := b) (i := i) (by omega)
        rw [e] at ht h1 h2 ⊢
        obtain ⟨l, hl⟩ : ∃ l, l = (bestM b i).1 := ⟨_, rfl⟩
        obtain ⟨d, hd⟩ : ∃ d, d = (bestM b i).2 := ⟨_, rfl⟩
        rw [← hl, ← hd] at ht h1 h2 hbr ⊢
        rw [← hl] at h3
        have htc := (ht _ (List.mem_cons_self ..)).2 (show ((l : Int)) ≠ 0 by omega)
        rw [List.flatMap_cons, List.append_assoc] at h1 h2 ⊢
        rw [List.length_append] at h2 ⊢
        have hs := match_back (pre := pre) (b := b) (bs := bs) (l := (l : Int)) (d := (d : Int)) (i := i) (most := most) (T := T) hr htc.1 (by omega) (by omega) (by omega) htc.2.1.1 htc.2.1.2.1 htc.2.1.2.2 htc.2.2.1 htc.2.2.2.1 htc.2.2.2.2 (by omega) h1.left (by rw [Int.toNat_natCast]; omega) (by rw [Int.toNat_natCast, Int.toNat_natCast]; exact hbr.2.2.2.2.2) (by omega)
        rw [Int.toNat_natCast] at hs
        obtain ⟨n, hn⟩ := ih (i + l) _ (by omega) (by omega) (fun t h => ht t (List.mem_cons_of_mem _ h)) h1.right (by omega)
        refine ⟨n + 1, ?_⟩
        rw [iter_inl hs, hn, Nat.add_assoc]
    · exact hfin (f + 1) i q hge h1 h2
theorem toksS_len {a ys : List Int} {ts : List Tok} : (toksS a ys ts).length = (ts.flatMap (tokBits a ys) ++ symCode a 256).length := rfl
/-- A block in such codes is told again. -/
theorem coded_back {a ys bs pre b : List Int} {T q : Nat} {most : Int} (hr : rightB a = true) (hy : rightB ys = true ∨ ys.any (fun y => y != 0) = false) (hb : ∀ j, j < b.length → 0 ≤ rd b j ∧ rd b j ≤ 255) (hend : Cod a 256) (hm : (pre.length : Int) + b.length ≤ most) (ht : ∀ t ∈ pressL b, TokC a ys t)
    (h1 : BitsAt bs q (toksS a ys (pressL b))) (h2 : q + (toksS a ys (pressL b)).length ≤ T) : codedS bs T most a ys q pre = .ok (q + (toksS a ys (pressL b)).length, pre ++ b) := by
  obtain ⟨n, hn⟩ := toks_back (bs := bs) (pre := pre) (T := T) hr hb hend hm b.length 0 q (by omega) (Nat.zero_le _) ht h1 h2
  rw [List.take_zero, List.append_nil] at hn
  exact coded_of hr hy hn
theorem cod_fixA {s : Nat} (h : s < 288) : Cod fixA s := by
  refine ⟨by rw [fixA_length]; exact h, ?_, (fixA_rng s).2⟩
  rw [rd_fixA s h]
  unfold fixAt
  split <;> (try split) <;> (try split) <;> omega
theorem cod_fixB {s : Nat} (h : s < 32) : Cod fixB s := by
  refine ⟨by unfold fixB; rw [List.length_replicate]; exact h, ?_, (fixB_rng s).2⟩
  rw [rd_fixB s h]
  omega
theorem press_cases {b : List Int} (hb : ∀ j, j < b.length → 0 ≤ rd b j ∧ rd b j ≤ 255) {t : Int × Int × Int} (h : t ∈ pressL b) : (t.2.1 = 0 ∧ t.2.2 = 0 ∧ 0 ≤ t.1 ∧ t.1 ≤ 255) ∨ (t.1 = 0 ∧ 3 ≤ t.2.1 ∧ t.2.1 ≤ 258 ∧ 1 ≤ t.2.2 ∧ t.2.2 ≤ 32768) := pressFrom_ok hb _ _ t h
theorem tok_fixed {b : List Int} (hb : ∀ j, j < b.length → 0 ≤ rd b j ∧ rd b j ≤ 255) : ∀ t ∈ pressL b, TokC fixA fixB t := by
  intro t ht
  rcases press_cases hb ht with ⟨h1, h2, h3, h4⟩ | ⟨h1, h2, h3, h4, h5⟩
  · exact ⟨fun _ => cod_fixA (by omega), fun h => absurd h1 h⟩
  · have r1 := symL_range t.2.1 h2 h3
    have r2 := symD_range t.2.2 h4 h5
    exact ⟨fun h => by omega, fun _ => ⟨right_fixB, cod_fixA (by omega), cod_fixB (by omega)⟩⟩
theorem fixed_back {bs pre b : List Int} {T q : Nat} {most : Int} (hb : ∀ j, j < b.length → 0 ≤ rd b j ∧ rd b j ≤ 255) (hm : (pre.length : Int) + b.length ≤ most) (h1 : BitsAt bs q (toksS fixA fixB (pressL b))) (h2 : q + (toksS fixA fixB (pressL b)).length ≤ T) : codedS bs T most fixA fixB q pre = .ok (q + (toksS fixA fixB (pressL b)).length, pre ++ b) :=
  coded_back right_fixA (Or.inl right_fixB) hb (cod_fixA (by omega)) hm (tok_fixed hb) h1 h2
end Go.Proofs.YtendohnkhbgfbaaDoor
