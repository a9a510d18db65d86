/-
  Texts joined into one file: GetP, PutP, DefP, DefQ, Num, Trim, Ord.
-/
import Derived.Test.YtendohnkhbgfbaaDoorJRefPk10
import Derived.Test.YtendohnkhbgfbaaDoorJRefPk11
import Derived.Test.YtendohnkhbgfbaaDoorJRefPk13
import Derived.Test.YtendohnkhbgfbaaDoorJRefPk7
import Derived.Test.YtendohnkhbgfbaaDoorJRefPk8
import Derived.Test.YtendohnkhbgfbaaDoorJRefPk6
import Derived.Test.YtendohnkhbgfbaaDoorJRefPk1
import Derived.Laws.Slices
namespace Go.Proofs.YtendohnkhbgfbaaDoor
open Go.RowKit

instance hitDec (xs bs : List Int) (p m s : Nat) : Decidable (Hit xs bs p m s) := by unfold Hit; infer_instance
def nextS (xs bs : List Int) (p m : Nat) : Option Nat := (List.range xs.length).find? fun s => decide (Hit xs bs p m s)
theorem nextS_hit {xs bs : List Int} {p m s : Nat} (h : Hit xs bs p m s) : nextS xs bs p m = some s := by
 cases hf : nextS xs bs p m with
 | none =>
  have := List.find?_eq_none.1 hf s (List.mem_range.2 h.1)
  simp [h] at this
 | some t =>
  have := List.find?_some hf
  rw [h.one (of_decide_eq_true this)]
theorem nextS_none {xs bs : List Int} {p m : Nat} (h : ∀ s, ¬ Hit xs bs p m s) : nextS xs bs p m = none := by
 rw [nextS, List.find?_eq_none]
 intro s _
 simp [h s]
theorem numAt_cons (bs : List Int) (p k : Nat) : numAt bs p (k + 1) = bitAt bs p + 2 * numAt bs (p + 1) k := by
 induction k with
 | zero => simp [numAt]
 | succ k ih =>
  have e : numAt bs p (k + 1 + 1) = numAt bs p (k + 1) + bitAt bs (p + (k + 1)) * 2 ^ (k + 1) := rfl
  have e2 : numAt bs (p + 1) (k + 1) = numAt bs (p + 1) k + bitAt bs (p + 1 + k) * 2 ^ k := rfl
  rw [e, ih, e2, Nat.mul_add, Nat.pow_succ, show p + 1 + k = p + (k + 1) from by omega, Nat.add_assoc, Nat.mul_comm (2 ^ k) 2, Nat.mul_left_comm]
def sizeS (s : Nat) : Nat := if s = 16 then 2 else if s = 17 then 3 else 7
def leastS (s : Nat) : Nat := if s = 16 then 3 else if s = 17 then 3 else 11
theorem sizeS_le (s : Nat) : sizeS s ≤ 7 := by unfold sizeS; split <;> (try split) <;> omega
theorem leastS_le (s : Nat) : 3 ≤ leastS s ∧ leastS s ≤ 11 := by unfold leastS; split <;> (try split) <;> omega
theorem numAt_size (bs : List Int) (p s : Nat) : numAt bs p (sizeS s) ≤ 128 := by
 have h := numAt_lt bs p (sizeS s)
 have : (2 : Nat) ^ sizeS s ≤ 2 ^ 7 := Nat.pow_le_pow_right (by omega) (sizeS_le s)
 have : (2 : Nat) ^ 7 = 128 := by decide
 omega
def manyS (bs : List Int) (q s : Nat) : Nat := leastS s + numAt bs q (sizeS s)
def valueS (out : List Int) (s : Nat) : Int := if s = 16 then rd out (out.length - 1) else 0
def listS (xs bs : List Int) (T n : Nat) : Nat → Nat → List Int → Option (List Int × Nat)
 | 0, _, _ => none
 | f + 1, p, out =>
  if n ≤ out.length then some (out, p) else
  match nextS xs bs p (T - p) with
  | none => none
  | some s =>
   if s < 16 then listS xs bs T n f (p + (rd xs s).toNat) (out ++ [(s : Int)]) else
   if s = 16 ∧ out.length = 0 then none else
   if T < p + (rd xs s).toNat + sizeS s then none else
   if n < out.length + manyS bs (p + (rd xs s).toNat) s then none else
   listS xs bs T n f (p + (rd xs s).toNat + sizeS s) (out ++ List.replicate (manyS bs (p + (rd xs s).toNat) s) (valueS out s))
theorem listS_done {xs bs : List Int} {T n f p : Nat} {out : List Int} (hf : 0 < f) (h : n ≤ out.length) : listS xs bs T n f p out = some (out, p) := by
 cases f with
 | zero => omega
 | succ f => unfold listS; rw [if_pos h]
theorem listS_no {xs bs : List Int} {T n f p : Nat} {out : List Int} (h : ¬ n ≤ out.length) (hn : ∀ s, ¬ Hit xs bs p (T - p) s) : listS xs bs T n f p out = none := by
 cases f with
 | zero => rfl
 | succ f => unfold listS; rw [if_neg h, nextS_none hn]
theorem listS_low {xs bs : List Int} {T n f p s : Nat} {out : List Int} (h : ¬ n ≤ out.length) (hs : Hit xs bs p (T - p) s) (h16 : s < 16) : listS xs bs T n (f + 1) p out = listS xs bs T n f (p + (rd xs s).toNat) (out ++ [(s : Int)]) := by
 rw [listS, if_neg h, nextS_hit hs]
 simp only [if_pos h16]
theorem listS_first {xs bs : List Int} {T n f p s : Nat} {out : List Int} (h : ¬ n ≤ out.length) (hs : Hit xs bs p (T - p) s) (h16 : s = 16) (h0 : out.length = 0) : listS xs bs T n f p out = none := by
 cases f with
 | zero => rfl
 | succ f =>
  rw [listS, if_neg h, nextS_hit hs]
  simp only [if_neg (show ¬ s < 16 by omega), if_pos (And.intro h16 h0)]
theorem listS_short {xs bs : List Int} {T n f p s : Nat} {out : List Int} (h : ¬ n ≤ out.length) (hs : Hit xs bs p (T - p) s) (h16 : ¬ s < 16) (hT : T < p + (rd xs s).toNat + sizeS s) : listS xs bs T n f p out = none := by
 cases f with
 | zero => rfl
 | succ f =>
  rw [listS, if_neg h, nextS_hit hs]
  simp only [if_neg h16, if_pos hT]
  split <;> rfl
theorem listS_long {xs bs : List Int} {T n f p s : Nat} {out : List Int} (h : ¬ n ≤ out.length) (hs : Hit xs bs p (T - p) s) (h16 : ¬ s < 16) (hm : n < out.length + manyS bs (p + (rd xs s).toNat) s) : listS xs bs T n f p out = none := by
 cases f with
 | zero => rfl
 | succ f =>
  rw [listS, if_neg h, nextS_hit hs]
  simp only [if_neg h16, if_pos hm]
  split
  ·rfl
  ·split <;> rfl
theorem listS_more {xs bs : List Int} {T n f p s : Nat} {out : List Int} (h : ¬ n ≤ out.length) (hs : Hit xs bs p (T - p) s) (h16 : ¬ s < 16) (h0 : ¬ (s = 16 ∧ out.length = 0)) (hT : ¬ T < p + (rd xs s).toNat + sizeS s) (hm : ¬ n < out.length + manyS bs (p + (rd xs s).toNat) s) :
  listS xs bs T n (f + 1) p out = listS xs bs T n f (p + (rd xs s).toNat + sizeS s) (out ++ List.replicate (manyS bs (p + (rd xs s).toNat) s) (valueS out s)) := by
 rw [listS, if_neg h, nextS_hit hs]
 simp only [if_neg h16, if_neg h0, if_neg hT, if_neg hm]
def ordL : List Nat := [16, 17, 18, 0, 8, 7, 9, 6, 10, 5, 11, 4, 12, 3, 13, 2, 14, 1, 15]
def lensS (bs : List Int) (p : Nat) : Nat → List Int
 | 0 => List.replicate 19 0
 | i + 1 => (lensS bs p i).set (ordL.getD i 0) (numAt bs (p + 3 * i) 3 : Nat)
theorem lensS_length (bs : List Int) (p i : Nat) : (lensS bs p i).length = 19 := by
 induction i with
 | zero => simp [lensS]
 | succ i ih => simp [lensS, ih]
theorem ordL_lt (i : Nat) : ordL.getD i 0 < 19 := by
 rcases Nat.lt_or_ge i 19 with h | h
 ·have key : ∀ i : Nat, i < 19 → ordL.getD i 0 < 19 := by decide
  exact key i h
 ·rw [List.getD_eq_getElem?_getD, List.getElem?_eq_none (by simpa [ordL] using h)]
  decide
def getS (bs : List Int) (T p : Nat) : Option (List Int × List Int × Nat) :=
 if T < p + 14 then none else
 if 29 < numAt bs p 5 ∨ 29 < numAt bs (p + 5) 5 then none else
 if T < p + 14 + 3 * (numAt bs (p + 10) 4 + 4) then none else
 if rightB (lensS bs (p + 14) (numAt bs (p + 10) 4 + 4)) = false then none else
 match listS (lensS bs (p + 14) (numAt bs (p + 10) 4 + 4)) bs T (numAt bs p 5 + 257 + (numAt bs (p + 5) 5 + 1)) (numAt bs p 5 + 257 + (numAt bs (p + 5) 5 + 1) + 1) (p + 14 + 3 * (numAt bs (p + 10) 4 + 4)) [] with
 | none => none
 | some (l, q) => if rd l 256 = 0 then none else some (l.take (numAt bs p 5 + 257), l.drop (numAt bs p 5 + 257), q)
theorem listS_len {xs bs : List Int} {T n : Nat} : ∀ {f p : Nat} {out l : List Int} {q : Nat}, out.length ≤ n → p ≤ T → listS xs bs T n f p out = some (l, q) → l.length = n ∧ q ≤ T := by
 intro f
 induction f with
 | zero => intro p out l q _ _ h; cases h
 | succ f ih =>
  intro p out l q hl hp h
  by_cases hn : n ≤ out.length
  ·rw [listS_done (by omega) hn] at h
   cases h
   exact ⟨by omega, hp⟩
  ·by_cases hx : ∃ s, Hit xs bs p (T - p) s
   ·obtain ⟨s, hs⟩ := hx
    have hm := hs.2.2.2.1
    by_cases h16 : s < 16
    ·rw [listS_low hn hs h16] at h
     exact ih (by simp; omega) (by omega) h
    ·by_cases h0 : s = 16 ∧ out.length = 0
     ·rw [listS_first hn hs h0.1 h0.2] at h; cases h
     ·by_cases hT : T < p + (rd xs s).toNat + sizeS s
      ·rw [listS_short hn hs h16 hT] at h; cases h
      ·by_cases hlong : n < out.length + manyS bs (p + (rd xs s).toNat) s
       ·rw [listS_long hn hs h16 hlong] at h; cases h
       ·rw [listS_more hn hs h16 h0 hT hlong] at h
        exact ih (by simp; omega) (by omega) h
   ·rw [listS_no hn (fun s hs => hx ⟨s, hs⟩)] at h
    cases h
theorem getS_at {bs : List Int} {T p : Nat} {l1 l2 : List Int} {q : Nat} (_hp : p ≤ T) (h : getS bs T p = some (l1, l2, q)) : q ≤ T := by
 unfold getS at h
 split at h
 ·cases h
 ·split at h
  ·cases h
  ·split at h
   ·cases h
   ·split at h
    ·cases h
    ·split at h
     ·cases h
     ·next l q' hl =>
      split at h
      ·cases h
      ·simp only [Option.some.injEq, Prod.mk.injEq] at h
       obtain ⟨_, _, rfl⟩ := h
       exact (listS_len (out := []) (by simp) (by omega) hl).2
theorem getS_small {bs : List Int} {T p : Nat} {l1 l2 : List Int} {q : Nat} (h : getS bs T p = some (l1, l2, q)) : l1.length + l2.length ≤ 1000 := by
 unfold getS at h
 split at h
 ·cases h
 ·split at h
  ·cases h
  ·split at h
   ·cases h
   ·split at h
    ·cases h
    ·split at h
     ·cases h
     ·next l q' hl =>
      split at h
      ·cases h
      ·simp only [Option.some.injEq, Prod.mk.injEq] at h
       obtain ⟨rfl, rfl, _⟩ := h
       have := (listS_len (out := []) (by simp) (by omega) hl).1
       have a1 := numAt_lt bs p 5
       have a2 := numAt_lt bs (p + 5) 5
       rw [List.length_take, List.length_drop]
       omega
end Go.Proofs.YtendohnkhbgfbaaDoor
namespace Go.Proofs.YtendohnkhbgfbaaDoor
open Go.RowKit

structure ItemOk (it : Item) : Prop where
 s : 0 ≤ it.s ∧ it.s ≤ 18
 bits : 0 ≤ it.bits ∧ it.bits ≤ 7
 extra : 0 ≤ it.extra ∧ it.extra ≤ 127
theorem itemAt_ok {xs : List Int} (h : ∀ j, j < xs.length → 0 ≤ rd xs j ∧ rd xs j ≤ 15) {i : Nat} (hi : i < xs.length) : ItemOk (itemAt xs i).1 := by
 have hx := h i hi
 have hr := runLen_pos hi
 unfold itemAt
 split
 ·exact ⟨⟨by simp, by simp⟩, ⟨by simp, by simp⟩, by simp only []; omega⟩
 ·rename_i h1
  split
  ·rename_i h2
   exact ⟨⟨by simp, by simp⟩, ⟨by simp, by simp⟩, by simp only []; omega⟩
  ·split
   ·exact ⟨⟨by simp, by simp⟩, ⟨by simp, by simp⟩, by simp only []; omega⟩
   ·exact ⟨by simp only []; omega, ⟨by simp, by simp⟩, ⟨by simp, by simp⟩⟩
theorem itemsFrom_ok {xs : List Int} (h : ∀ j, j < xs.length → 0 ≤ rd xs j ∧ rd xs j ≤ 15) : ∀ (f i : Nat), ∀ it ∈ itemsFrom xs f i, ItemOk it := by
 intro f
 induction f with
 | zero => intro i it hit; cases hit
 | succ f ih =>
  intro i it hit
  unfold itemsFrom at hit
  split at hit
  ·rename_i hi
   rcases List.mem_cons.1 hit with rfl | hit
   ·exact itemAt_ok h hi
   ·exact ih _ it hit
  ·cases hit
theorem items_ok {xs : List Int} (h : ∀ j, j < xs.length → 0 ≤ rd xs j ∧ rd xs j ≤ 15) : ∀ it ∈ items xs, ItemOk it := itemsFrom_ok h _ _
def itS (its : List Item) (k : Nat) : Nat := (rd (its.map Item.s) k).toNat
def itB (its : List Item) (k : Nat) : Nat := (rd (its.map Item.bits) k).toNat
def itE (its : List Item) (k : Nat) : Nat := (rd (its.map Item.extra) k).toNat
structure ItAt (its : List Item) (k : Nat) : Prop where
 s : (its.map Item.s)[k]? = some ((itS its k : Nat) : Int)
 s18 : itS its k ≤ 18
 b7 : itB its k ≤ 7
 e127 : itE its k ≤ 127
theorem it_at {its : List Item} (h : ∀ it ∈ its, ItemOk it) {k : Nat} (hk : k < its.length) : its[k] = ⟨(itS its k : Nat), (itB its k : Nat), (itE its k : Nat)⟩ ∧ itS its k ≤ 18 ∧ itB its k ≤ 7 ∧ itE its k ≤ 127 := by
 have ho := h its[k] (List.getElem_mem _)
 have e1 : rd (its.map Item.s) k = its[k].s := by rw [rd_getElem (by simpa using hk)]; simp
 have e2 : rd (its.map Item.bits) k = its[k].bits := by rw [rd_getElem (by simpa using hk)]; simp
 have e3 : rd (its.map Item.extra) k = its[k].extra := by rw [rd_getElem (by simpa using hk)]; simp
 obtain ⟨h1, h2, h3⟩ := ho
 unfold itS itB itE
 rw [e1, e2, e3]
 generalize its[k] = it at *
 obtain ⟨s, b, e⟩ := it
 simp only at *
 refine ⟨?_, by omega, by omega, by omega⟩
 rw [Int.toNat_of_nonneg h1.1, Int.toNat_of_nonneg h2.1, Int.toNat_of_nonneg h3.1]
theorem it_cells {its : List Item} (h : ∀ it ∈ its, ItemOk it) {k : Nat} (hk : k < its.length) : (itemCells its)[k * 3]? = some (.int .i64 (itS its k : Nat)) ∧ (itemCells its)[k * 3 + 1]? = some (.int .i64 (itB its k : Nat)) ∧ (itemCells its)[k * 3 + 2]? = some (.int .u64 (itE its k : Nat)) := by
 have h1 := itemCells_at its k hk
 rw [(it_at h hk).1] at h1
 exact h1
def wtsIt (its : List Item) : Nat → List Int
 | 0 => List.replicate 19 0
 | k + 1 => (wtsIt its k).set (itS its k) (rd (wtsIt its k) (itS its k) + 1)
theorem wtsIt_length (its : List Item) (k : Nat) : (wtsIt its k).length = 19 := by
 induction k with
 | zero => simp [wtsIt]
 | succ k ih => simp [wtsIt, ih]
theorem wtsIt_le (its : List Item) (hs : ∀ k, k < its.length → itS its k ≤ 18) : ∀ (k j : Nat), k ≤ its.length → 0 ≤ rd (wtsIt its k) j ∧ rd (wtsIt its k) j ≤ k := by
 intro k
 induction k with
 | zero =>
  intro j _
  have : rd (wtsIt its 0) j = 0 := rd_zeros 19 j
  omega
 | succ k ih =>
  intro j hk
  have h1 := ih j (by omega)
  have h2 := ih (itS its k) (by omega)
  have h3 := hs k (by omega)
  have e : rd (wtsIt its (k + 1)) j = if itS its k = j then rd (wtsIt its k) (itS its k) + 1 else rd (wtsIt its k) j := by
   show rd ((wtsIt its k).set _ _) j = _
   rw [rd_set (by rw [wtsIt_length]; omega)]
  rw [e]
  split <;> omega
theorem sum_le_mul : ∀ {l : List Int} {B : Int}, 0 ≤ B → (∀ x ∈ l, x ≤ B) → l.sum ≤ l.length * B := by
 intro l B hB
 induction l with
 | nil => intro _; simp
 | cons x l ih =>
  intro h
  have h1 := ih (fun y hy => h y (by simp [hy]))
  have h2 := h x (by simp)
  rw [List.sum_cons, List.length_cons, Int.natCast_add, Int.add_mul]
  omega
theorem wtsIt_nn (its : List Item) (hs : ∀ k, k < its.length → itS its k ≤ 18) (k : Nat) (hk : k ≤ its.length) : ∀ x ∈ wtsIt its k, 0 ≤ x ∧ x ≤ k := fun x hx => by
 obtain ⟨j, hj, rfl⟩ := List.getElem_of_mem hx
 rw [← rd_getElem hj]
 exact wtsIt_le its hs k j hk
theorem wtsIt_sum (its : List Item) (hs : ∀ k, k < its.length → itS its k ≤ 18) (k : Nat) (hk : k ≤ its.length) : (wtsIt its k).sum ≤ 19 * k := by
 have h := sum_le_mul (l := wtsIt its k) (B := k) (by omega) (fun x hx => (wtsIt_nn its hs k hk x hx).2)
 rw [wtsIt_length] at h
 exact h
def lensIt (its : List Item) : List Int := lensOf 7 (wtsIt its its.length)
theorem lensIt_length (its : List Item) : (lensIt its).length = 19 := by unfold lensIt; rw [lensOf_length, wtsIt_length]
theorem lensIt_few (its : List Item) : (posTo (wtsIt its its.length) (wtsIt its its.length).length).length ≤ 2 ^ 7 := by
 have := posTo_le (wtsIt its its.length) (wtsIt its its.length).length
 rw [wtsIt_length] at this ⊢
 have : (2 : Nat) ^ 7 = 128 := by decide
 omega
theorem lensIt_rng (its : List Item) (hs : ∀ k, k < its.length → itS its k ≤ 18) (j : Nat) : 0 ≤ rd (lensIt its) j ∧ rd (lensIt its) j ≤ 7 := by
 rcases Nat.lt_or_ge j 19 with h | h
 ·obtain ⟨wt, e1, e2, e3, e4⟩ := lensOf_is (m := 7) (by omega) (fun x hx => (wtsIt_nn its hs its.length (Nat.le_refl _) x hx).1) (lensIt_few its)
  unfold lensIt
  rw [e1]
  have h1 := onceM_pos wt j (by rw [e2, wtsIt_length]; exact h)
  refine ⟨h1.1, ?_⟩
  rw [rd_getElem (by rw [onceM_length, e2, wtsIt_length]; exact h)]
  exact e4 _ (List.getElem_mem _)
 ·rw [rd_out (by rw [lensIt_length]; exact h)]
  omega
theorem lensIt_ok (its : List Item) (hs : ∀ k, k < its.length → itS its k ≤ 18) : lensOk (lensIt its) = true := by
 unfold lensOk
 rw [List.all_eq_true]
 intro x hx
 obtain ⟨j, hj, rfl⟩ := List.getElem_of_mem hx
 have := lensIt_rng its hs j
 rw [rd_getElem hj] at this
 simp
 omega
def tn (l : List Int) (least : Nat) : Nat → Nat
 | 0 => least
 | d + 1 => if rd l (least + d) = 0 then tn l least d else least + d + 1
theorem tn_rng (l : List Int) (least d : Nat) : least ≤ tn l least d ∧ tn l least d ≤ least + d := by
 induction d with
 | zero => exact ⟨Nat.le_refl _, Nat.le_refl _⟩
 | succ d ih => unfold tn; split <;> omega
def ordV (ls : List Int) : List Int := ordL.map fun s => rd ls s
theorem ordV_length (ls : List Int) : (ordV ls).length = 19 := by simp [ordV, ordL]
theorem rd_ordV {ls : List Int} {j : Nat} (h : j < 19) : rd (ordV ls) j = rd ls (ordL.getD j 0) := by
 rw [rd_getElem (by rw [ordV_length]; exact h)]
 simp only [ordV, List.getElem_map]
 rw [List.getD_eq_getElem?_getD, List.getElem?_eq_getElem (show j < ordL.length from h)]
 rfl
def headS (a b many : Nat) : List Int := lowOf (a - 257) 5 ++ lowOf (b - 1) 5 ++ lowOf (many - 4) 4
def bitsIt (ls : List Int) (its : List Item) (k : Nat) : List Int := (List.range k).flatMap fun j => hiOf (rd (codesOf ls) (itS its j)).toNat (rd ls (itS its j)).toNat ++ lowOf (itE its j) (itB its j)
theorem bitsIt_succ (ls : List Int) (its : List Item) (k : Nat) : bitsIt ls its (k + 1) = bitsIt ls its k ++ hiOf (rd (codesOf ls) (itS its k)).toNat (rd ls (itS its k)).toNat ++ lowOf (itE its k) (itB its k) := by
 simp [bitsIt, List.range_succ, List.append_assoc]
theorem bitsIt_length (ls : List Int) (its : List Item) (hs : ∀ j, 0 ≤ rd ls j ∧ rd ls j ≤ 7) (hb : ∀ k, k < its.length → itB its k ≤ 7) : ∀ k, k ≤ its.length → (bitsIt ls its k).length ≤ 14 * k := by
 intro k
 induction k with
 | zero => intro _; simp [bitsIt]
 | succ k ih =>
  intro hk
  have h1 := ih (by omega)
  have h2 := hs (itS its k)
  have h3 := hb k (by omega)
  rw [bitsIt_succ, List.length_append, List.length_append, hiOf_length, lowOf_length]
  omega
def itsOf (xs ys : List Int) : List Item := items (xs.take (tn xs 257 (xs.length - 257)) ++ ys.take (tn ys 1 (ys.length - 1)))
def manyOf (its : List Item) : Nat := tn (ordV (lensIt its)) 4 15
def putS (xs ys : List Int) : List Int :=
 headS (tn xs 257 (xs.length - 257)) (tn ys 1 (ys.length - 1)) (manyOf (itsOf xs ys)) ++ lows (ordV (lensIt (itsOf xs ys))) 3 (manyOf (itsOf xs ys)) ++ bitsIt (lensIt (itsOf xs ys)) (itsOf xs ys) (itsOf xs ys).length
end Go.Proofs.YtendohnkhbgfbaaDoor
namespace Go.Proofs.YtendohnkhbgfbaaDoor
open Go.RowKit

def symCode (a : List Int) (s : Nat) : List Int := hiOf (rd (codesOf a) s).toNat (rd a s).toNat
def tokBits (a b : List Int) (t : Tok) : List Int :=
 if t.2.1 = 0 then symCode a t.1.toNat
 else symCode a (symS 257 lens t.2.1).toNat ++ lowOf (symX lens t.2.1).toNat (symB lens t.2.1).toNat ++ (symCode b (symS 0 dists t.2.2).toNat ++ lowOf (symX dists t.2.2).toNat (symB dists t.2.2).toNat)
def toksTo (a b : List Int) (ts : List Tok) (k : Nat) : List Int := (ts.take k).flatMap (tokBits a b)
theorem toksTo_succ (a b : List Int) {ts : List Tok} {k : Nat} (h : k < ts.length) : toksTo a b ts (k + 1) = toksTo a b ts k ++ tokBits a b (tokB ts k, tokL ts k, tokD ts k) := by
 unfold toksTo
 rw [take_tok ts k h, List.flatMap_append, List.flatMap_cons, List.flatMap_nil, List.append_nil]
def toksS (a b : List Int) (ts : List Tok) : List Int := ts.flatMap (tokBits a b) ++ symCode a 256
theorem toksTo_all (a b : List Int) (ts : List Tok) : toksTo a b ts ts.length = ts.flatMap (tokBits a b) := by unfold toksTo; rw [List.take_length]
def wtsA (ts : List Tok) : List Int := (List.range 286).map fun j => cntA ts j + if 256 = j then 1 else 0
def wtsD (ts : List Tok) : List Int := (List.range 30).map fun j => cntD ts j
theorem wtsA_length (ts : List Tok) : (wtsA ts).length = 286 := by simp [wtsA]
theorem wtsD_length (ts : List Tok) : (wtsD ts).length = 30 := by simp [wtsD]
theorem rd_map_range {n j : Nat} (f : Nat → Int) (h : j < n) : rd ((List.range n).map f) j = f j := by
 rw [rd_getElem (by simp; exact h)]
 simp
theorem wtsA_is {ts : List Tok} {la : List Int} (hl : la.length = 286) (h : ∀ j, j < 286 → rd la j = cntA ts j + if 256 = j then 1 else 0) : la = wtsA ts := by
 refine ext_rd (by rw [hl, wtsA_length]) (fun j hj => ?_)
 rw [hl] at hj
 rw [h j hj]
 unfold wtsA
 rw [rd_map_range _ hj]
theorem wtsD_is {ts : List Tok} {lb : List Int} (hl : lb.length = 30) (h : ∀ j, j < 30 → rd lb j = cntD ts j) : lb = wtsD ts := by
 refine ext_rd (by rw [hl, wtsD_length]) (fun j hj => ?_)
 rw [hl] at hj
 rw [h j hj]
 unfold wtsD
 rw [rd_map_range _ hj]
theorem cntA_rng (ts : List Tok) (j : Nat) : 0 ≤ cntA ts j ∧ cntA ts j ≤ ts.length := by
 have h := cntA_le ts ts.length j
 rwa [List.take_of_length_le (Nat.le_refl _)] at h
theorem cntD_rng (ts : List Tok) (j : Nat) : 0 ≤ cntD ts j ∧ cntD ts j ≤ ts.length := by
 have h := cntD_le ts ts.length j
 rwa [List.take_of_length_le (Nat.le_refl _)] at h
theorem wtsA_mem {ts : List Tok} : ∀ x ∈ wtsA ts, 0 ≤ x ∧ x ≤ ts.length + 1 := by
 intro x hx
 unfold wtsA at hx
 obtain ⟨j, _, rfl⟩ := List.mem_map.1 hx
 have := cntA_rng ts j
 split <;> omega
theorem wtsD_mem {ts : List Tok} : ∀ x ∈ wtsD ts, 0 ≤ x ∧ x ≤ ts.length := by
 intro x hx
 unfold wtsD at hx
 obtain ⟨j, _, rfl⟩ := List.mem_map.1 hx
 exact cntD_rng ts j
theorem wtsA_sum (ts : List Tok) : (wtsA ts).sum ≤ 286 * (ts.length + 1) := by
 have := sum_le_mul (l := wtsA ts) (B := (ts.length : Int) + 1) (by omega) (fun x hx => (wtsA_mem x hx).2)
 rw [wtsA_length] at this
 exact this
theorem wtsD_sum (ts : List Tok) : (wtsD ts).sum ≤ 30 * ts.length := by
 have := sum_le_mul (l := wtsD ts) (B := (ts.length : Int)) (by omega) (fun x hx => (wtsD_mem x hx).2)
 rw [wtsD_length] at this
 exact this
def lenA (ts : List Tok) : List Int := lensOf 15 (wtsA ts)
def lenD (ts : List Tok) : List Int := lensOf 15 (wtsD ts)
theorem lenA_length (ts : List Tok) : (lenA ts).length = 286 := by unfold lenA; rw [lensOf_length, wtsA_length]
theorem lenD_length (ts : List Tok) : (lenD ts).length = 30 := by unfold lenD; rw [lensOf_length, wtsD_length]
theorem lensOf_rng {ws : List Int} {m : Nat} (hm : 1 ≤ m) (h0 : ∀ x ∈ ws, 0 ≤ x) (hp : (posTo ws ws.length).length ≤ 2 ^ m) (j : Nat) : 0 ≤ rd (lensOf m ws) j ∧ rd (lensOf m ws) j ≤ m := by
 rcases Nat.lt_or_ge j (lensOf m ws).length with g | g
 ·obtain ⟨wt, e, h1, h2, h3⟩ := lensOf_is hm h0 hp
  rw [e] at g ⊢
  have hj : j < wt.length := by rw [onceM_length] at g; exact g
  have := (onceM_pos wt j hj).1
  refine ⟨this, ?_⟩
  rw [rd_getElem g]
  exact h3 _ (List.getElem_mem g)
 ·have : rd (lensOf m ws) j = 0 := rd_out g
  omega
theorem lenA_rng (ts : List Tok) (j : Nat) : 0 ≤ rd (lenA ts) j ∧ rd (lenA ts) j ≤ 15 :=
 lensOf_rng (m := 15) (by omega) (fun x hx => (wtsA_mem x hx).1) (Nat.le_trans (posTo_le _ _) (by rw [wtsA_length]; decide)) j
theorem lenD_rng (ts : List Tok) (j : Nat) : 0 ≤ rd (lenD ts) j ∧ rd (lenD ts) j ≤ 15 :=
 lensOf_rng (m := 15) (by omega) (fun x hx => (wtsD_mem x hx).1) (Nat.le_trans (posTo_le _ _) (by rw [wtsD_length]; decide)) j
theorem fixA_rng (j : Nat) : 0 ≤ rd fixA j ∧ rd fixA j ≤ 15 := by
 rcases Nat.lt_or_ge j 288 with g | g
 ·rw [rd_fixA j g]; unfold fixAt; split <;> (try split) <;> (try split) <;> omega
 ·have : rd fixA j = 0 := rd_out (by rw [fixA_length]; exact g)
  omega
theorem fixB_rng (j : Nat) : 0 ≤ rd fixB j ∧ rd fixB j ≤ 15 := by
 rcases Nat.lt_or_ge j 32 with g | g
 ·rw [rd_fixB j g]; omega
 ·have : rd fixB j = 0 := rd_out (by unfold fixB; rw [List.length_replicate]; exact g)
  omega
def fixedS (b : List Int) : List Int := [1, 1, 0] ++ toksS fixA fixB (pressL b)
def dynS (b : List Int) : List Int := [1, 0, 1] ++ (putS (lenA (pressL b)) (lenD (pressL b)) ++ toksS (lenA (pressL b)) (lenD (pressL b)) (pressL b))
def storedB (b : List Int) : List Int := stoB (b.length + 1) b
def pressB (b : List Int) : List Int :=
 if (fixedS b).length < 8 * (storedB b).length then (if (dynS b).length < (fixedS b).length then packB (dynS b) else packB (fixedS b))
 else if (dynS b).length < 8 * (storedB b).length then packB (dynS b) else storedB b
theorem hiOf_bit (x n : Nat) : Bit01 (hiOf x n) := fun y hy => lowOf_bit x n y (List.mem_reverse.1 hy)
theorem symCode_bit (a : List Int) (s : Nat) : Bit01 (symCode a s) := hiOf_bit _ _
theorem symCode_len {a : List Int} (h : ∀ j, 0 ≤ rd a j ∧ rd a j ≤ 15) (s : Nat) : (symCode a s).length ≤ 15 := by
 unfold symCode; rw [hiOf_length]; have := h s; omega
theorem tokBits_bit (a b : List Int) (t : Tok) : Bit01 (tokBits a b t) := by
 unfold tokBits
 split
 ·exact symCode_bit _ _
 ·exact ((symCode_bit _ _).app (lowOf_bit _ _)).app ((symCode_bit _ _).app (lowOf_bit _ _))
theorem toksTo_bit (a b : List Int) (ts : List Tok) (k : Nat) : Bit01 (toksTo a b ts k) := by
 intro x hx
 obtain ⟨t, _, h⟩ := List.mem_flatMap.1 hx
 exact tokBits_bit a b t x h
def TokOk (ts : List Tok) : Prop := ∀ j, j < ts.length → (0 ≤ tokB ts j ∧ tokB ts j ≤ 255) ∧ tokOk (tokL ts j) (tokB ts j) (tokD ts j) = true
theorem tok_get {ts : List Tok} {j : Nat} (h : j < ts.length) : ts[j] = (tokB ts j, tokL ts j, tokD ts j) := by simp [tokB, tokL, tokD, List.getD_eq_getElem?_getD, List.getElem?_eq_getElem h]
theorem tokOk_mk {l b d : Int} (h : (l = 0 ∧ d = 0) ∨ (b = 0 ∧ 3 ≤ l ∧ l ≤ 258 ∧ 1 ≤ d ∧ d ≤ 32768)) : tokOk l b d = true := by
 unfold tokOk
 simp
 omega
theorem pressL_ok {b : List Int} (hb : ∀ j, j < b.length → 0 ≤ rd b j ∧ rd b j ≤ 255) : TokOk (pressL b) := by
 intro j hj
 have h := pressFrom_ok hb _ 0 _ (List.getElem_mem (l := pressL b) hj)
 rw [tok_get hj] at h
 simp only at h
 refine ⟨by omega, tokOk_mk (by omega)⟩
theorem pressL_length (b : List Int) : (pressL b).length ≤ b.length := pressFrom_length _ _ _
theorem tokBits_len {a b : List Int} (ha : ∀ j, 0 ≤ rd a j ∧ rd a j ≤ 15) (hb : ∀ j, 0 ≤ rd b j ∧ rd b j ≤ 15) {t : Tok} (ht : tokOk t.2.1 t.1 t.2.2 = true) : (tokBits a b t).length ≤ 48 := by
 unfold tokBits
 split
 ·have := symCode_len ha t.1.toNat; omega
 ·rename_i hn
  rcases tokOk_cases ht with h | ⟨_, h1, h2, h3, h4⟩
  ·exact absurd h.1 hn
  ·have r1 := symL_range t.2.1 h1 h2
   have r2 := symD_range t.2.2 h3 h4
   have l1 := symCode_len ha (symS 257 lens t.2.1).toNat
   have l2 := symCode_len hb (symS 0 dists t.2.2).toNat
   simp only [List.length_append, lowOf_length]
   omega
theorem toksTo_len {a b : List Int} (ha : ∀ j, 0 ≤ rd a j ∧ rd a j ≤ 15) (hb : ∀ j, 0 ≤ rd b j ∧ rd b j ≤ 15) {ts : List Tok} (ht : TokOk ts) : ∀ k, k ≤ ts.length → (toksTo a b ts k).length ≤ 48 * k := by
 intro k
 induction k with
 | zero => intro _; exact Nat.le_refl _
 | succ k ih =>
  intro hk
  rw [toksTo_succ a b (by omega), List.length_append]
  have h1 := ih (by omega)
  have h2 := tokBits_len (t := (tokB ts k, tokL ts k, tokD ts k)) ha hb (ht k (by omega)).2
  omega
end Go.Proofs.YtendohnkhbgfbaaDoor
namespace Go.Proofs.YtendohnkhbgfbaaDoor
open Go.RowKit

theorem pressB_cases (b : List Int) : pressB b = storedB b ∨ pressB b = packB (fixedS b) ∨ pressB b = packB (dynS b) := by
 unfold pressB
 split
 ·split
  ·exact .inr (.inr rfl)
  ·exact .inr (.inl rfl)
 ·split
  ·exact .inr (.inr rfl)
  ·exact .inl rfl
theorem pressB_le (b : List Int) : (pressB b).length ≤ (storedB b).length ∧ (pressB b).length ≤ (packB (fixedS b)).length ∧ (pressB b).length ≤ (packB (dynS b)).length := by
 unfold pressB
 split
 ·split
  ·simp only [packB_length]; omega
  ·simp only [packB_length]; omega
 ·split
  ·simp only [packB_length]; omega
  ·simp only [packB_length]; omega
theorem storedB_length {b : List Int} (h : b.length ≤ 65535) : (storedB b).length = b.length + 5 := by
 unfold storedB stoB
 rw [if_pos h]
 simp only [List.length_append, List.length_cons, List.length_nil]
 omega
theorem rd_rep {k j : Nat} {c : Int} (h : j < k) : rd (List.replicate k c) j = c := by
 rw [rd_getElem (by rw [List.length_replicate]; exact h), List.getElem_replicate]
theorem same_rep (k : Nat) (c : Int) (p q : Nat) (hp : p ≤ q) : ∀ f n, q + n ≤ k → sameFrom (List.replicate k c) p q f n = min (n + f) (k - q) := by
 intro f
 induction f with
 | zero => intro n hn; unfold sameFrom; omega
 | succ f ih =>
  intro n hn
  unfold sameFrom
  rw [List.length_replicate]
  rcases Nat.lt_or_ge (q + n) k with g | g
  ·rw [if_pos ⟨g, by rw [rd_rep (by omega), rd_rep g]⟩, ih (n + 1) (by omega)]
   omega
  ·rw [if_neg (fun h => absurd h.1 (by omega))]
   omega
theorem sameN_rep (k : Nat) (c : Int) (p q : Nat) (hp : p ≤ q) (hq : q ≤ k) : sameN (List.replicate k c) p q = min 258 (k - q) := by
 unfold sameN
 rw [same_rep k c p q hp 258 0 (by omega)]
theorem best_rep (k : Nat) (c : Int) (i : Nat) (_hi : 1 ≤ i) (hk : i < k) : ∀ d, 1 ≤ d → d ≤ i → bestTo (List.replicate k c) i d = (min 258 (k - i), 1) := by
 intro d
 induction d with
 | zero => intro h; omega
 | succ d ih =>
  intro _ h2
  unfold bestTo
  rw [sameN_rep k c _ i (by omega) (by omega)]
  rcases Nat.eq_zero_or_pos d with h0 | h0
  ·subst h0
   rw [if_pos (by show 0 < _; omega)]
  ·rw [ih h0 (by omega), if_neg (Nat.lt_irrefl _)]
theorem bestM_rep (k : Nat) (c : Int) (i : Nat) (hi : 1 ≤ i) (hk : i < k) : bestM (List.replicate k c) i = (min 258 (k - i), 1) := best_rep k c i hi hk _ (by omega) (by omega)
theorem lit_bits {c : Int} : (tokBits fixA fixB (c, 0, 0)).length ≤ 9 := by
 unfold tokBits
 rw [if_pos rfl]
 unfold symCode
 rw [hiOf_length]
 show (rd fixA c.toNat).toNat ≤ 9
 rcases Nat.lt_or_ge c.toNat 288 with g | g
 ·rw [rd_fixA _ g]
  unfold fixAt
  split <;> (try split) <;> (try split) <;> omega
 ·rw [rd_out (L := fixA) (by rw [fixA_length]; exact g)]
  decide
theorem end_bits : (symCode fixA 256).length = 7 := by
 unfold symCode
 rw [hiOf_length, rd_fixA _ (by decide)]
 decide
theorem match_bits {l : Int} (h1 : 3 ≤ l) (h2 : l ≤ 258) : (tokBits fixA fixB (0, l, 1)).length ≤ 18 ∧ (l = 258 → (tokBits fixA fixB (0, l, 1)).length = 13) := by
 unfold tokBits
 rw [if_neg (by show ¬ l = 0; omega)]
 simp only [List.length_append, lowOf_length]
 unfold symCode
 rw [hiOf_length, hiOf_length]
 have r := symL_range l h1 h2
 have e0 : symS 0 dists 1 = 0 := by decide
 have e1 : symB dists 1 = 0 := by decide
 rw [e0, e1]
 have eb : rd fixB (0 : Int).toNat = 5 := rd_fixB 0 (by decide)
 rw [eb]
 obtain ⟨s, hs⟩ : ∃ s : Nat, symS 257 lens l = s := ⟨(symS 257 lens l).toNat, by omega⟩
 have hx : rd fixA (symS 257 lens l).toNat ≤ 8 := by
  rw [hs, Int.toNat_natCast, rd_fixA s (by omega)]
  unfold fixAt
  rw [if_neg (by omega), if_neg (by omega)]
  split <;> omega
 refine ⟨?_, fun e => ?_⟩
 ·omega
 ·subst e
  have q0 : symS 257 lens 258 = 285 := by decide
  have q1 : symB lens 258 = 0 := by decide
  rw [q0, q1]
  have ea : rd fixA (285 : Int).toNat = 8 := by rw [show (285 : Int).toNat = 285 from rfl, rd_fixA 285 (by decide)]; decide
  rw [ea]
  decide
theorem rep_bits (k : Nat) (c : Int) : ∀ f i, 1 ≤ i → ((pressFrom (List.replicate k c) f i).flatMap (tokBits fixA fixB)).length ≤ 13 * ((k - i) / 258) + 18 := by
 intro f
 induction f with
 | zero => intro i _; show 0 ≤ _; omega
 | succ f ih =>
  intro i hi
  unfold pressFrom
  rw [List.length_replicate]
  split
  ·rename_i hk
   rw [bestM_rep k c i hi hk]
   split
   ·rename_i h3
    rw [List.flatMap_cons, List.length_append]
    have h1 := lit_bits (c := rd (List.replicate k c) i)
    have h3' : k - i < 3 := by simp only at h3; omega
    -- at most two literals are left
    cases f with
    | zero => show _ + 0 ≤ _; omega
    | succ f =>
     unfold pressFrom
     rw [List.length_replicate]
     split
     ·rename_i hk2
      rw [bestM_rep k c (i + 1) (by omega) hk2, if_pos (by show min 258 (k - (i + 1)) < 3; omega), pressFrom_end _ _ _ (by rw [List.length_replicate]; omega), List.flatMap_cons, List.length_append]
      have h2 := lit_bits (c := rd (List.replicate k c) (i + 1))
      show _ + (_ + 0) ≤ _
      omega
     ·show _ + 0 ≤ _; omega
   ·rename_i h3
    rw [List.flatMap_cons, List.length_append]
    simp only at h3 ⊢
    have hm := match_bits (l := ((min 258 (k - i) : Nat) : Int)) (by omega) (by omega)
    rcases Nat.lt_or_ge (k - i) 258 with g | g
    ·rw [pressFrom_end _ _ _ (by rw [List.length_replicate]; omega)]
     have h1 := hm.1
     show _ + 0 ≤ _
     have e1 : ((1 : Nat) : Int) = 1 := rfl
     rw [e1]
     omega
    ·have h1 := hm.2 (by omega)
     have h2 := ih (i + min 258 (k - i)) (by omega)
     have e1 : ((1 : Nat) : Int) = 1 := rfl
     rw [e1, h1]
     have e2 : i + min 258 (k - i) = i + 258 := by omega
     rw [e2] at h2 ⊢
     have e3 : (k - i) / 258 = (k - (i + 258)) / 258 + 1 := by omega
     omega
  ·show 0 ≤ _; omega
theorem press_rep (k : Nat) (c : Int) (hk : k < 6000) : (pressB (List.replicate k c)).length ≤ 12 + k / 100 := by
 have h := (pressB_le (List.replicate k c)).2.1
 rw [packB_length] at h
 have hb : (fixedS (List.replicate k c)).length ≤ 3 + 9 + 13 * ((k - 1) / 258) + 18 + 7 := by
  unfold fixedS toksS
  rw [List.length_append, List.length_append, end_bits]
  have e : (pressL (List.replicate k c)).flatMap (tokBits fixA fixB) = (pressFrom (List.replicate k c) k 0).flatMap (tokBits fixA fixB) := by unfold pressL; rw [List.length_replicate]
  rw [e]
  show 3 + (_ + 7) ≤ _
  cases k with
  | zero => show 3 + (0 + 7) ≤ _; omega
  | succ k =>
   unfold pressFrom
   rw [List.length_replicate, if_pos (by omega), if_pos (by rw [show (bestM (List.replicate (k + 1) c) 0).1 = 0 from rfl]; decide), List.flatMap_cons, List.length_append]
   have h1 := lit_bits (c := rd (List.replicate (k + 1) c) 0)
   have h2 := rep_bits (k + 1) c k (0 + 1) (by omega)
   omega
 omega
end Go.Proofs.YtendohnkhbgfbaaDoor
namespace Go.Proofs.YtendohnkhbgfbaaDoor
open Go.RowKit

theorem bits_part {w : World} {b o m : Nat} {bs : List Int} {p : Nat} (h : Rd w .u8 (some ⟨b, o, none⟩) m (bitsOf bs p m)) (k j : Nat) (hk : k + j ≤ m) : Rd w .u8 (some ⟨b, o + k, none⟩) j (bitsOf bs (p + k) j) :=
 ⟨by rw [bitsOf_length], fun hj => ⟨b, o + k, rfl, fun i hi => by
  obtain ⟨b', o', e, hc⟩ := h.2 (by omega)
  cases e
  have h9 := hc (k + i) (by omega)
  rw [rd_bitsOf (by omega)] at h9
  rw [rd_bitsOf hi, Nat.add_assoc, Nat.add_assoc]
  exact h9⟩⟩
theorem bits_none {w : World} {A : Option Addr} {bs : List Int} (p : Nat) : Rd w .u8 A 0 (bitsOf bs p 0) := ⟨by rw [bitsOf_length], fun h => by omega⟩
set_option maxHeartbeats 1000000 in
theorem Num_calls (A : Option Addr) (m c p : Nat) (bs : List Int) (w : World) (hA : Rd w .u8 A m (bitsOf bs p m)) (hm : m ≤ 60) :
  Calls Tryd.prog 66 #[.slice A m c] w fun e w' => e = .returned (.int .u64 (numAt bs p m : Nat)) ∧ w = w' := by
 have HA := Lib.hid hA
 clear hA
 go_enter Tryd.func66, Tryd.ntmps66
 go_wp2
 go_loop [3, 4] (fun x i => ∃ k j : Nat, k + j = m ∧ i = .int .i64 ((k : Int) - 1) ∧ x = .int .u64 (numAt bs (p + k) j : Nat)) (fun _ i => (intOf i + 1).toNat)
 case atStart => exact ⟨m, 0, by omega, rfl, rfl⟩
 case round =>
  obtain ⟨k, j, hk, rfl, rfl⟩ := hrel
  by_cases hlt : 0 < k
  ·obtain ⟨b, o, rfl, hc⟩ := HA.out.2 (by omega)
   have z := hc (k - 1) (by omega)
   rw [rd_bitsOf (by omega)] at z
   have hx := numAt_lt bs (p + k) j
   have hpow : (2 : Nat) ^ j ≤ 2 ^ 60 := Nat.pow_le_pow_right (by omega) (by omega)
   have hp60 : (2 : Nat) ^ 60 = 1152921504606846976 := by decide
   have hbt := bitAt_le bs (p + (k - 1))
   have hcons := numAt_cons bs (p + (k - 1)) j
   rw [show p + (k - 1) + 1 = p + k from by omega] at hcons
   obtain ⟨X, hX⟩ : ∃ X, X = numAt bs (p + k) j := ⟨_, rfl⟩
   obtain ⟨Y, hY⟩ : ∃ Y, Y = bitAt bs (p + (k - 1)) := ⟨_, rfl⟩
   rw [← hX, ← hY] at hcons
   rw [← hX] at hx ⊢
   rw [← hY] at z hbt
   have Hcons := Lib.hid hcons
   have hX2 : X ≤ 1152921504606846976 := by omega
   have s1 : ((k : Int) - 1).toNat = k - 1 := by omega
   have s2 : (0 : Int) ≤ (k : Int) - 1 := by omega
   clear hc hcons hX hY hx hpow hp60
   go_wp2
   go_round
   case rel => exact ⟨k - 1, j + 1, by omega, by rw [show (((k - 1 : Nat) : Int)) = (k : Int) - 1 from by omega], by rw [Hcons.out]; go_num⟩
   case measure => simp [intOf]; omega
  ·obtain rfl : k = 0 := by omega
   obtain rfl : j = m := by omega
   go_wp2
   go_ret
   exact ⟨rfl, rfl⟩
set_option maxHeartbeats 1000000 in set_option maxRecDepth 100000 in
theorem order_calls (w : World) :
  Calls Tryd.prog 100 #[] w fun e w' => ∃ g, e = .returned (.slice (some ⟨g, 0, none⟩) 19 19) ∧ (∀ j, j < 19 → w'.cell? ⟨g, j, none⟩ = some (.int .i64 (ordL.getD j 0 : Nat))) ∧ Below w.heap.size w w' := by
 go_enter Tryd.func100, Tryd.ntmps100
 go_wp2
 go_ret
 refine ⟨w.heap.size, rfl, fun j hj => ?_, (Below.refl _ _).alloc (Nat.le_refl _) _⟩
 have key : ∀ j : Nat, j < 19 → (#[Value.int .i64 16, .int .i64 17, .int .i64 18, .int .i64 0, .int .i64 8, .int .i64 7, .int .i64 9, .int .i64 6, .int .i64 10, .int .i64 5, .int .i64 11, .int .i64 4, .int .i64 12, .int .i64 3, .int .i64 13, .int .i64 2, .int .i64 14, .int .i64 1, .int .i64 15].toList)[j]? = some (Value.int .i64 (ordL.getD j 0 : Nat)) := by
  intro j hj
  have : j = 0 ∨ j = 1 ∨ j = 2 ∨ j = 3 ∨ j = 4 ∨ j = 5 ∨ j = 6 ∨ j = 7 ∨ j = 8 ∨ j = 9 ∨ j = 10 ∨ j = 11 ∨ j = 12 ∨ j = 13 ∨ j = 14 ∨ j = 15 ∨ j = 16 ∨ j = 17 ∨ j = 18 := by omega
  rcases this with rfl | rfl | rfl | rfl | rfl | rfl | rfl | rfl | rfl | rfl | rfl | rfl | rfl | rfl | rfl | rfl | rfl | rfl | rfl <;> rfl
 have h := news_at w _ 3 j _ (key j hj)
 rw [addr_add, Nat.zero_add] at h
 exact h
end Go.Proofs.YtendohnkhbgfbaaDoor
namespace Go.Proofs.YtendohnkhbgfbaaDoor
open Go.RowKit

set_option maxHeartbeats 1000000 in set_option maxRecDepth 100000 in
theorem trim_calls (A : Option Addr) (n c least : Nat) (xs : List Int) (w : World) (hR : Rd w .i64 A n xs) (h1 : 1 ≤ least) (hl : least ≤ n) (hn : n ≤ 1000000) (hc : n ≤ c) :
  Calls Tryd.prog 88 #[.slice A n c, .int .i64 least] w fun e w' => e = .returned (.slice A (tn xs least (n - least)) c) ∧ w = w' := by
 obtain ⟨b, o, rfl, hcell⟩ := hR.2 (by omega)
 have HC := Lib.hid hcell
 clear hcell
 go_enter Tryd.func88, Tryd.ntmps88
 go_wp2
 go_loop [5] (fun i => ∃ d : Nat, d ≤ n - least ∧ i = .int .i64 ((least + d : Nat) : Int) ∧ Hid (tn xs least (n - least) = tn xs least d)) (fun i => (intOf i).toNat)
 case atStart => exact ⟨n - least, by omega, by rw [show least + (n - least) = n from by omega], rfl⟩
 case round =>
  obtain ⟨d, hd, rfl, HT⟩ := hrel
  rcases Nat.eq_zero_or_pos d with h0 | h0
  ·subst h0
   have HT2 := HT.out
   rw [show tn xs least 0 = least from rfl] at HT2
   have HT3 := Lib.hid HT2
   clear HT2
   rw [Nat.add_zero]
   go_wp2
   go_ret
   exact ⟨by rw [HT3.out]; rfl, rfl⟩
  ·obtain ⟨e, rfl⟩ : ∃ e, d = e + 1 := ⟨d - 1, by omega⟩
   have z := HC.out (least + e) (by omega)
   obtain ⟨y, hy⟩ : ∃ y, rd xs (least + e) = y := ⟨_, rfl⟩
   rw [hy] at z
   have HT2 := HT.out
   have hu : tn xs least (e + 1) = if rd xs (least + e) = 0 then tn xs least e else least + e + 1 := rfl
   rw [hu, hy] at HT2
   obtain ⟨q, hq⟩ : ∃ q, q = least + e := ⟨_, rfl⟩
   rw [← hq] at z HT2
   rw [show least + (e + 1) = q + 1 from by omega]
   have hql : least ≤ q := by omega
   have hqn : q < n := by omega
   have s1 : (((q + 1 : Nat) : Int) - 1).toNat = q := by omega
   have s2 : (((q + 1 : Nat) : Int) - 1) = (q : Int) := by omega
   by_cases hy0 : y = 0
   ·rw [if_pos hy0] at HT2
    have HT3 := Lib.hid HT2
    have Hq := Lib.hid hq
    subst hy0
    clear HT2 hy hu hq
    go_wp2
    go_round
    case rel => exact ⟨e, by omega, by rw [← Hq.out], HT3.out⟩
    case measure => simp [intOf]
   ·rw [if_neg hy0] at HT2
    have HT3 := Lib.hid HT2
    have d0 : (y == 0) = false := by simpa using hy0
    clear HT2 hy hu hq
    go_wp2
    go_ret
    exact ⟨by rw [HT3.out]; rfl, rfl⟩
set_option maxHeartbeats 1000000 in set_option maxRecDepth 100000 in
theorem refTrim_calls (A : Option Addr) (n c least : Nat) (xs : List Int) (w : World) (hR : Rd w .i64 A n xs) (h1 : 1 ≤ least) (hl : least ≤ n) (hn : n ≤ 1000000) (hc : n ≤ c) :
  Calls Tryd.prog 98 #[.slice A n c, .int .i64 least] w fun e w' => e = .returned (.slice A (tn xs least (n - least)) c) ∧ w = w' := by
 obtain ⟨b, o, rfl, hcell⟩ := hR.2 (by omega)
 have HC := Lib.hid hcell
 clear hcell
 go_enter Tryd.func98, Tryd.ntmps98
 go_wp2
 go_loop [5, 6] (fun m i => ∃ d : Nat, d ≤ n - least ∧ i = .int .i64 ((least + d : Nat) : Int) ∧ m = .int .i64 (tn xs least d : Nat)) (fun _ i => n - (intOf i).toNat)
 case atStart => exact ⟨0, by omega, rfl, rfl⟩
 case round =>
  obtain ⟨d, hd, rfl, rfl⟩ := hrel
  have ht := tn_rng xs least d
  obtain ⟨q, hq⟩ : ∃ q, q = least + d := ⟨_, rfl⟩
  by_cases hlt : d < n - least
  ·have z := HC.out (least + d) (by omega)
   obtain ⟨y, hy⟩ : ∃ y, rd xs (least + d) = y := ⟨_, rfl⟩
   rw [hy] at z
   have hu : tn xs least (d + 1) = if rd xs (least + d) = 0 then tn xs least d else least + d + 1 := rfl
   rw [hy, ← hq] at hu
   rw [← hq] at z ⊢
   have hqn : q < n := by omega
   have Hq := Lib.hid hq
   clear hq hy
   by_cases hy0 : y = 0
   ·rw [if_pos hy0] at hu
    have Hu := Lib.hid hu
    subst hy0
    clear hu
    go_wp2
    go_round
    case rel => exact ⟨d + 1, by omega, by rw [show least + (d + 1) = q + 1 from by have := Hq.out; omega]; go_num, by rw [Hu.out]⟩
    case measure => simp [intOf]; omega
   ·rw [if_neg hy0] at hu
    have Hu := Lib.hid hu
    have d0 : (y == 0) = false := by simpa using hy0
    clear hu
    go_wp2
    go_round
    case rel => exact ⟨d + 1, by omega, by rw [show least + (d + 1) = q + 1 from by have := Hq.out; omega]; go_num, by rw [Hu.out]; go_num⟩
    case measure => simp [intOf]; omega
  ·obtain rfl : d = n - least := by omega
   have e1 : least + (n - least) = n := by omega
   rw [e1]
   obtain ⟨m, hm⟩ : ∃ m, m = tn xs least (n - least) := ⟨_, rfl⟩
   rw [← hm] at ht ⊢
   have hmn : m ≤ n := by omega
   clear e1 hq ht
   have Hm := Lib.hid hm
   clear hm
   go_wp2
   go_ret
   exact ⟨by first | rfl | (rw [← Hm.out]; rfl) | (rw [Hm.out]; rfl), rfl⟩
end Go.Proofs.YtendohnkhbgfbaaDoor
namespace Go.Proofs.YtendohnkhbgfbaaDoor
open Go.RowKit

theorem ord_slice (W : World) (k : IntKind) (h : Int) (m : Nat) (e : h = m) (hm : m ≤ 19) : (Instr.sliceAt 151 (.pointer (some ⟨1, 0, none⟩)) none (some (.int k h)) none).run Tryd.prog W = .ok (.slice (some ⟨1, 0, none⟩) m 19) W := by
 have ha : Tryd.prog.arrayLen 151 = 19 := by simp [Program.arrayLen, Tryd.underlying151]
 have hu : Tryd.prog.underlying 151 = some (.array (Tryd.prog.arrayLen 151) (Tryd.prog.elem 151)) := by simp [Program.arrayLen, Program.elem, Tryd.underlying151]
 subst e
 rw [run_sliceAt_array_h W _ _ hu k (m : Int) (by omega) (by rw [ha]; omega), ha]
 simp [Program.elem, Tryd.underlying151, go_sem]
end Go.Proofs.YtendohnkhbgfbaaDoor
