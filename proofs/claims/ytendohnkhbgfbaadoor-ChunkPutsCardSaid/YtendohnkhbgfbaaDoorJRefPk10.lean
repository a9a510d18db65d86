/-
  Texts joined into one file: NextP, Rest.
-/
import Derived.Test.YtendohnkhbgfbaaDoorJRefPk9
import Derived.Test.YtendohnkhbgfbaaDoorJRefPk2
import Derived.Test.YtendohnkhbgfbaaDoorJRefPk6
import Derived.Test.YtendohnkhbgfbaaDoorJRefPk1
namespace Go.Proofs.YtendohnkhbgfbaaDoor
open Go.RowKit

theorem firstAt_far (c : List Int) (hc : ∀ j, j < 16 → 0 ≤ rd c j) (k d : Nat) (h : k + d + 1 ≤ 16) : 2 ^ (d + 1) * (firstAt c k + rd c k) ≤ firstAt c (k + d + 1) := by
  induction d with
  | zero => simp [firstAt]
  | succ d ih =>
    have h1 := ih (by omega)
    have h2 := hc (k + d + 1) (by omega)
    have e : (2 : Int) ^ (d + 1 + 1) * (firstAt c k + rd c k) = 2 * (2 ^ (d + 1) * (firstAt c k + rd c k)) := by rw [Int.pow_succ, Int.mul_comm _ 2, Int.mul_assoc]
    have e2 : firstAt c (k + (d + 1) + 1) = 2 * (firstAt c (k + d + 1) + rd c (k + d + 1)) := rfl
    rw [e, e2]
    omega
theorem codeTo_far (bs : List Int) (p k d : Nat) : 2 ^ d * codeTo bs p k ≤ codeTo bs p (k + d) ∧ codeTo bs p (k + d) + 1 ≤ 2 ^ d * (codeTo bs p k + 1) := by
  induction d with
  | zero => simp
  | succ d ih =>
    have hb := bitAt_le bs (p + (k + d))
    have e1 : 2 ^ (d + 1) * codeTo bs p k = 2 * (2 ^ d * codeTo bs p k) := by rw [Nat.pow_succ, Nat.mul_comm _ 2, Nat.mul_assoc]
    have e2 : 2 ^ (d + 1) * (codeTo bs p k + 1) = 2 * (2 ^ d * (codeTo bs p k + 1)) := by rw [Nat.pow_succ, Nat.mul_comm _ 2, Nat.mul_assoc]
    have e3 : codeTo bs p (k + (d + 1)) = 2 * codeTo bs p (k + d) + bitAt bs (p + (k + d)) := rfl
    rw [e1, e2, e3]
    omega
theorem hitB_iff (xs bs : List Int) (p k : Nat) : hitB xs bs p k = true ↔ firstAt (cntOf xs) k ≤ (codeTo bs p k : Int) ∧ (codeTo bs p k : Int) < firstAt (cntOf xs) k + rd (cntOf xs) k := by
  unfold hitB
  rw [Bool.and_eq_true, decide_eq_true_iff, decide_eq_true_iff]
  omega
theorem hitB_lt (xs bs : List Int) (p k d : Nat) (hd : k + d + 1 ≤ 15) (h1 : hitB xs bs p k = true) (h2 : hitB xs bs p (k + d + 1) = true) : False := by
  rw [hitB_iff] at h1 h2
  have f := firstAt_far (cntOf xs) (fun j hj => (rd_cntOf xs j hj).1) k d (by omega)
  have c := (codeTo_far bs p k (d + 1)).2
  have c2 : ((codeTo bs p (k + d + 1) : Nat) : Int) + 1 ≤ 2 ^ (d + 1) * ((codeTo bs p k : Int) + 1) := by
    have : ((codeTo bs p (k + (d + 1)) + 1 : Nat) : Int) ≤ ((2 ^ (d + 1) * (codeTo bs p k + 1) : Nat) : Int) := Int.ofNat_le.2 c
    rw [Int.natCast_mul, Int.natCast_pow] at this
    exact this
  have m : (2 : Int) ^ (d + 1) * ((codeTo bs p k : Int) + 1) ≤ 2 ^ (d + 1) * (firstAt (cntOf xs) k + rd (cntOf xs) k) := Int.mul_le_mul_of_nonneg_left (by omega) (Int.le_of_lt (Int.pow_pos (by omega)))
  omega
theorem before_mono (xs : List Int) (k : Int) {s t : Nat} (h : s ≤ t) : before xs k s ≤ before xs k t := by
  unfold before
  refine List.Sublist.length_le (List.Sublist.filter _ ?_)
  rw [show s = min s t from by omega, ← List.take_take]
  exact List.take_sublist _ _
theorem before_lt (xs : List Int) (k : Int) {s t : Nat} (h : s < t) (ht : s < xs.length) (hk : rd xs s = k) : before xs k s < before xs k t := by
  have h1 := before_hit xs k s ht hk
  have h2 := before_mono xs k (s := s + 1) (t := t) h
  omega
def Hit (xs bs : List Int) (p m s : Nat) : Prop := s < xs.length ∧ 0 < rd xs s ∧ rd xs s ≤ 15 ∧ (rd xs s).toNat ≤ m ∧ ((codeTo bs p (rd xs s).toNat : Nat) : Int) = codeAt xs s
theorem Hit.code {xs bs : List Int} {p m s : Nat} (h : Hit xs bs p m s) : ((codeTo bs p (rd xs s).toNat : Nat) : Int) = firstAt (cntOf xs) (rd xs s).toNat + (before xs (rd xs s) s : Nat) := by
  obtain ⟨_, h2, h3, _, h5⟩ := h
  rw [h5]
  unfold codeAt nextCode
  rw [if_pos ⟨h2, h3⟩, Int.toNat_of_nonneg (by omega)]
theorem Hit.b {xs bs : List Int} {p m s : Nat} (h : Hit xs bs p m s) : hitB xs bs p (rd xs s).toNat = true := by
  have c := h.code
  obtain ⟨h1, h2, h3, _, _⟩ := h
  rw [hitB_iff, c, rd_cntOf_pos xs (rd xs s).toNat (by omega) (by omega), Int.toNat_of_nonneg (by omega)]
  have := before_lt xs (rd xs s) h1 h1 rfl
  omega
theorem Hit.one {xs bs : List Int} {p m s t : Nat} (h : Hit xs bs p m s) (g : Hit xs bs p m t) : s = t := by
  have b1 := h.b
  have b2 := g.b
  have c1 := h.code
  have c2 := g.code
  obtain ⟨h1, h2, h3, _, _⟩ := h
  obtain ⟨g1, g2, g3, _, _⟩ := g
  rcases Nat.lt_trichotomy (rd xs s).toNat (rd xs t).toNat with q | q | q
  · obtain ⟨d, hd⟩ : ∃ d, (rd xs t).toNat = (rd xs s).toNat + d + 1 := ⟨(rd xs t).toNat - (rd xs s).toNat - 1, by omega⟩
    rw [hd] at b2
    exact (hitB_lt xs bs p _ d (by omega) b1 b2).elim
  · have e : rd xs s = rd xs t := by omega
    rw [← q, ← e, c1] at c2
    rcases Nat.lt_trichotomy s t with z | z | z
    · have := before_lt xs (rd xs s) z h1 rfl
      omega
    · exact z
    · have := before_lt xs (rd xs s) z g1 e.symm
      omega
  · obtain ⟨d, hd⟩ : ∃ d, (rd xs s).toNat = (rd xs t).toNat + d + 1 := ⟨(rd xs s).toNat - (rd xs t).toNat - 1, by omega⟩
    rw [hd] at b1
    exact (hitB_lt xs bs p _ d (by omega) b2 b1).elim
theorem ofLen_at (xs : List Int) (k : Nat) : ∀ n, n ≤ xs.length → ∀ i, i < (ofLen xs k n).length → ∃ s : Nat, s < n ∧ rd xs s = k ∧ before xs k s = i ∧ rd (ofLen xs k n) i = s := by
  intro n
  induction n with
  | zero => intro _ i hi; simp [ofLen] at hi
  | succ n ih =>
    intro hn i hi
    by_cases e : rd xs n = k
    · rw [ofLen_hit xs k n e] at hi ⊢
      rcases Nat.lt_or_ge i (ofLen xs k n).length with g | g
      · obtain ⟨s, h1, h2, h3, h4⟩ := ih (by omega) i g
        refine ⟨s, by omega, h2, h3, ?_⟩
        rw [← h4, rd_appL g]
      · rw [List.length_append, List.length_cons, List.length_nil] at hi
        have ei : i = (ofLen xs k n).length := by omega
        refine ⟨n, by omega, e, by rw [ei, ofLen_len xs k n (by omega)], ?_⟩
        rw [ei, show (ofLen xs k n).length = (ofLen xs k n).length + 0 from rfl, rd_appR]
        rfl
    · rw [ofLen_miss xs k n e] at hi ⊢
      obtain ⟨s, h1, h2, h3, h4⟩ := ih (by omega) i hi
      exact ⟨s, by omega, h2, h3, h4⟩
theorem symsTo_split (xs : List Int) (j d : Nat) : ∃ r, symsTo xs (j + 1 + d) = symsTo xs j ++ (ofLen xs (j + 1) xs.length ++ r) := by
  induction d with
  | zero => exact ⟨[], by simp [symsTo]⟩
  | succ d ih =>
    obtain ⟨r, h⟩ := ih
    exact ⟨r ++ ofLen xs (j + 1 + d + 1) xs.length, by
      show symsTo xs (j + 1 + d) ++ _ = _
      rw [h, List.append_assoc, List.append_assoc]
      rfl⟩
theorem hit_sym (xs bs : List Int) (p m k : Nat) (h0 : 0 < k) (h15 : k ≤ 15) (hm : k ≤ m) (h : hitB xs bs p k = true) : ∃ s : Nat, Hit xs bs p m s ∧ rd xs s = k ∧ symAt xs bs p k = s := by
  rw [hitB_iff, rd_cntOf_pos xs k h0 (by omega)] at h
  obtain ⟨i, hi⟩ : ∃ i : Nat, (codeTo bs p k : Int) = firstAt (cntOf xs) k + i := ⟨((codeTo bs p k : Int) - firstAt (cntOf xs) k).toNat, by omega⟩
  have hlen := ofLen_len xs k xs.length (Nat.le_refl _)
  obtain ⟨s, h1, h2, h3, h4⟩ := ofLen_at xs k xs.length (Nat.le_refl _) i (by omega)
  refine ⟨s, ⟨h1, by omega, by omega, by omega, ?_⟩, h2, ?_⟩
  · unfold codeAt nextCode
    rw [if_pos ⟨by omega, by omega⟩, h2, Int.toNat_natCast, hi, h3]
  · obtain ⟨j, rfl⟩ : ∃ j, k = j + 1 := ⟨k - 1, by omega⟩
    obtain ⟨r, hr⟩ := symsTo_split xs j (15 - (j + 1))
    rw [show j + 1 + (15 - (j + 1)) = 15 from by omega] at hr
    unfold symAt
    rw [show ((codeTo bs p (j + 1) : Int) - firstAt (cntOf xs) (j + 1)).toNat = i from by omega, hr, Nat.add_sub_cancel, ← h4, rd_appR, rd_appL (by omega)]
theorem Next_hit (h r base : Nat) (A : Option Addr) (len cap p : Nat) (xs bs : List Int) (w : World) (hC : Coder w base h xs) (hxs : xs.length ≤ 1000000) (hR : RdrAt w r A len cap p) (hB : Rd w .u8 A len bs) (hb : ∀ j, j < len → 0 ≤ rd bs j ∧ rd bs j ≤ 255) (hne : ∀ b o, A = some ⟨b, o, none⟩ → b ≠ r) (hlen : len ≤ 1000000) (hp : p ≤ 8 * len) (hhr : h ≠ r) :
    Calls Tryd.prog 121 #[.pointer (some ⟨h, 0, none⟩), .pointer (some ⟨r, 0, none⟩)] w fun e w' =>
      ((∃ s : Nat, Hit xs bs p (8 * len - p) s ∧ e = .returned (.tuple #[.int .i64 s, .bool true]) ∧ RdrAt w' r A len cap (p + (rd xs s).toNat)) ∨
       ((∀ s, ¬ Hit xs bs p (8 * len - p) s) ∧ e = .returned (.tuple #[.int .i64 0, .bool false]) ∧ ∃ q, q ≤ 8 * len ∧ RdrAt w' r A len cap q)) ∧ w.grownBy w' (some r) := by
  refine (Next_calls h r base A len cap p xs bs w hC hxs hR hB hb hne hlen hp hhr).mono ?_
  rintro e w1 ⟨h1 | h1, hg⟩
  · obtain ⟨k, k0, k15, kp, kno, kh, rfl, kr⟩ := h1
    obtain ⟨s, s1, s2, s3⟩ := hit_sym xs bs p (8 * len - p) k k0 k15 (by omega) kh
    rw [s3]
    exact ⟨.inl ⟨s, s1, rfl, by rw [s2]; exact kr⟩, hg⟩
  · obtain ⟨k, k15, kp, kno, kk, rfl, kr⟩ := h1
    refine ⟨.inr ⟨fun s hs => ?_, rfl, _, by omega, kr⟩, hg⟩
    have hb1 := hs.b
    obtain ⟨_, g2, g3, g4, _⟩ := hs
    rw [kno _ (by omega) (by omega)] at hb1
    cases hb1
end Go.Proofs.YtendohnkhbgfbaaDoor
namespace Go.Proofs.YtendohnkhbgfbaaDoor
open Go.RowKit

theorem Coder.below {w w1 : World} {base h : Nat} {xs : List Int} (hc : Coder w base h xs) (hb : Below w.heap.size w w1) : Coder w1 base h xs := by
 obtain ⟨m, v, h1, h2, h3, h4, h5⟩ := hc
 exact ⟨m, v, h1, h2, h3.below hb h3.lt, h4, own_below h5 hb⟩
theorem Coder.grown {w w1 : World} {base h r : Nat} {xs : List Int} {A : Option Addr} {len cap p : Nat} (hc : Coder w base h xs) (hR : RdrAt w r A len cap p) (hg : w.grownBy w1 (some r)) (hhr : h ≠ r) : Coder w1 base h xs := by
 obtain ⟨m, v, h1, h2, h3, h4, h5⟩ := hc
 exact ⟨m, v, h1, h2, (hg.block h h3.lt (by simpa using hhr)).trans h3, h4, h5.kept hg (.inr (own_ne hR (by decide) h5))⟩
theorem Coder.lt {w : World} {base h : Nat} {xs : List Int} (hc : Coder w base h xs) : h < w.heap.size := by
 obtain ⟨m, v, h1, h2, h3, h4, h5⟩ := hc
 exact h3.lt
def RestAt (w : World) (r : Nat) (A : Option Addr) (m : Nat) (bs : List Int) (p : Nat) : Prop := Rd w .u8 A m (bitsOf bs p m) ∧ ∀ b o, A = some ⟨b, o, none⟩ → b ≠ r
theorem RestAt.below {w w1 : World} {r : Nat} {A : Option Addr} {m : Nat} {bs : List Int} {p : Nat} (h : RestAt w r A m bs p) (hb : Below w.heap.size w w1) : RestAt w1 r A m bs p := ⟨h.1.below hb, h.2⟩
theorem RestAt.grown {w w1 : World} {r : Nat} {A : Option Addr} {m : Nat} {bs : List Int} {p : Nat} (h : RestAt w r A m bs p) (hg : w.grownBy w1 (some r)) : RestAt w1 r A m bs p := ⟨h.1.grown hg h.2, h.2⟩
theorem RestAt.next {w : World} {r b o m : Nat} {bs : List Int} {p : Nat} (h : RestAt w r (some ⟨b, o, none⟩) m bs p) (k : Nat) (hk : k ≤ m) : RestAt w r (some ⟨b, o + k, none⟩) (m - k) bs (p + k) := by
 refine ⟨⟨by rw [bitsOf_length], fun hm => ⟨b, o + k, rfl, fun j hj => ?_⟩⟩, fun b' o' e => ?_⟩
 ·obtain ⟨b', o', e, hc⟩ := h.1.2 (by omega)
  cases e
  have h9 := hc (k + j) (by omega)
  rw [rd_bitsOf (by omega)] at h9
  rw [rd_bitsOf hj, Nat.add_assoc, Nat.add_assoc]
  exact h9
 ·cases e
  exact h.2 b o rfl
theorem RestAt.empty {w : World} {r b o m : Nat} {bs : List Int} {p : Nat} (h : RestAt w r (some ⟨b, o, none⟩) m bs p) (p' : Nat) : RestAt w r (some ⟨b, o, none⟩) 0 bs p' := ⟨⟨by rw [bitsOf_length], fun h => by omega⟩, h.2⟩
theorem grown_fr {w wr w' : World} {row : Option Nat} {S : List (Option Nat)} (h : w.grownBy wr row) (hf : Fr wr w' S) (hS : ∀ o ∈ S, ∀ j, o = some j → w.heap.size ≤ j) : w.grownBy w' row :=
 ⟨hf.os.trans h.os, hf.tape.trans h.tape, hf.output.trans h.output, Nat.le_trans h.size hf.size, fun k hk hne => (hf.block k (Nat.lt_of_lt_of_le hk h.size) (fun o ho e => by
  have := hS o ho k e
  omega)).trans (h.block k hk hne)⟩
theorem RdrAt.fr {w w' : World} {r : Nat} {A : Option Addr} {len cap p : Nat} {S : List (Option Nat)} (h : RdrAt w r A len cap p) (hf : Fr w w' S) (hS : ∀ o ∈ S, o ≠ some r) : RdrAt w' r A len cap p := (hf.block r h.lt hS).trans h
theorem own_far {w : World} {base n : Nat} {e : TypeId} {size : Nat} {v : Value} {xs : List Value} (h : w.ownsRow base e size v n xs) {B : Nat} (hB : B ≤ base) : ∀ o ∈ [v.ownBlock], ∀ j, o = some j → B ≤ j := fun o ho j e => by
 simp at ho
 subst ho
 have := (h.lt _ e).1
 omega
theorem own_cap {w : World} {base n : Nat} {e : TypeId} {size : Nat} {v : Value} {xs : List Value} (h : w.ownsRow base e size v n xs) : ∀ A m c, v = .slice A m c → c ≤ 9223372036854775807 := fun A m c hv => by
 rcases h.2 with ⟨rfl, _⟩ | ⟨g, cap, cur, rfl, _, _, _, h4, _⟩
 ·cases hv; omega
 ·cases hv
  have : maxLen = 9223372036854775807 := by decide
  omega
end Go.Proofs.YtendohnkhbgfbaaDoor
