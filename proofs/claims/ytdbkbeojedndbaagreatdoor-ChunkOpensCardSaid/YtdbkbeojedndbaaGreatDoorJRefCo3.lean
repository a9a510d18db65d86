/-
  Texts joined into one file: HuffX, RdA, NextP, HuffR, RefN, SymsP.
-/
import Derived.Test.YtdbkbeojedndbaaGreatDoorJRefCo2
import Derived.Deep.Cut
import Derived.Deep.CutRange
import Derived.BigQuiet
import Derived.Deep.RegionWith
import Derived.Test.YtdbkbeojedndbaaGreatDoorJRefCo1
import Derived.WalkKit
namespace Go.Proofs.YtdbkbeojedndbaaGreatDoor
open Go.RowKit

def codeTo (bs : List Int) (p : Nat) : Nat → Nat
  | 0 => 0
  | k + 1 => 2 * codeTo bs p k + bitAt bs (p + k)
theorem codeTo_lt (bs : List Int) (p k : Nat) : codeTo bs p k < 2 ^ k := by
  induction k with
  | zero => simp [codeTo]
  | succ k ih =>
    have := bitAt_le bs (p + k)
    simp only [codeTo, Nat.pow_succ]
    omega
def hitB (xs bs : List Int) (p k : Nat) : Bool := decide (0 ≤ (codeTo bs p k : Int) - firstAt (cntOf xs) k) && decide ((codeTo bs p k : Int) - firstAt (cntOf xs) k < rd (cntOf xs) k)
def symAt (xs bs : List Int) (p k : Nat) : Int := rd (symsTo xs 15) ((symsTo xs (k - 1)).length + ((codeTo bs p k : Int) - firstAt (cntOf xs) k).toNat)
theorem ofLen_len (xs : List Int) (k s : Nat) (hs : s ≤ xs.length) : (ofLen xs k s).length = before xs k s := by
  induction s with
  | zero => simp [ofLen, before]
  | succ s ih =>
    have h1 := ih (by omega)
    by_cases e : rd xs s = k
    · rw [ofLen_hit xs k s e, before_hit xs k s (by omega) e, List.length_append, h1]
      rfl
    · rw [ofLen_miss xs k s e, before_miss xs k s (by omega) e, h1]
theorem symsTo_mono (xs : List Int) (k d : Nat) : (symsTo xs k).length ≤ (symsTo xs (k + d)).length := by
  induction d with
  | zero => exact Nat.le_refl _
  | succ d ih =>
    have : (symsTo xs (k + d + 1)).length = (symsTo xs (k + d)).length + (ofLen xs (k + d + 1) xs.length).length := by simp [symsTo]
    show _ ≤ (symsTo xs (k + d + 1)).length
    omega
theorem symsTo_room (xs : List Int) (k : Nat) (hk : 0 < k) (hk2 : k ≤ 15) : (symsTo xs (k - 1)).length + rd (cntOf xs) k ≤ ((symsTo xs 15).length : Nat) := by
  obtain ⟨j, rfl⟩ : ∃ j, k = j + 1 := ⟨k - 1, by omega⟩
  have h1 := symsTo_mono xs (j + 1) (15 - (j + 1))
  rw [show j + 1 + (15 - (j + 1)) = 15 from by omega] at h1
  have h2 : (symsTo xs (j + 1)).length = (symsTo xs j).length + (ofLen xs (j + 1) xs.length).length := by simp [symsTo]
  rw [ofLen_len xs (j + 1) xs.length (Nat.le_refl _)] at h2
  rw [rd_cntOf_pos xs (j + 1) (by omega) (by omega)]
  simp only [Nat.add_sub_cancel]
  omega
theorem grown_trans {w w1 w2 : World} {row : Option Nat} (h : w.grownBy w1 row) (k : w1.grownBy w2 row) : w.grownBy w2 row :=
  ⟨k.os.trans h.os, k.tape.trans h.tape, k.output.trans h.output, Nat.le_trans h.size k.size, fun i hi hne => (k.block i (Nat.lt_of_lt_of_le hi h.size) hne).trans (h.block i hi hne)⟩
theorem numAt_one (bs : List Int) (p : Nat) : numAt bs p 1 = bitAt bs p := by simp [numAt]

set_option maxHeartbeats 2000000 in
set_option maxRecDepth 100000 in
theorem Next_calls (h r base : Nat) (A : Option Addr) (len cap p : Nat) (xs bs : List Int) (w : World) (hC : Coder w base h xs) (hxs : xs.length ≤ 1000000) (hR : RdrAt w r A len cap p) (hB : Rd w .u8 A len bs) (hb : ∀ j, j < len → 0 ≤ rd bs j ∧ rd bs j ≤ 255) (hne : ∀ b o, A = some ⟨b, o, none⟩ → b ≠ r) (hlen : len ≤ 1000000) (hp : p ≤ 8 * len) (hhr : h ≠ r) :
    Calls Tryz.prog 84 #[.pointer (some ⟨h, 0, none⟩), .pointer (some ⟨r, 0, none⟩)] w fun e w' =>
      ((∃ k, 0 < k ∧ k ≤ 15 ∧ p + k ≤ 8 * len ∧ (∀ i, 0 < i → i < k → hitB xs bs p i = false) ∧ hitB xs bs p k = true ∧ e = .returned (.tuple #[.int .i64 (symAt xs bs p k), .bool true]) ∧ RdrAt w' r A len cap (p + k)) ∨
       (∃ k, k ≤ 15 ∧ p + k ≤ 8 * len ∧ (∀ i, 0 < i → i ≤ k → hitB xs bs p i = false) ∧ (k = 15 ∨ p + k = 8 * len) ∧ e = .returned (.tuple #[.int .i64 0, .bool false]) ∧ RdrAt w' r A len cap (p + k))) ∧ w.grownBy w' (some r) := by
  have HC := Lib.hid hC
  have HR := Lib.hid hR
  have HB := Lib.hid hB
  have Hb := Lib.hid hb
  clear hC hR hB hb
  go_enter Tryz.func84, Tryz.ntmps84
  go_wp2
  go_loopw [6, 7] (fun x i wr => ∃ k : Nat, k ≤ 15 ∧ i = .int .i64 (1 + k) ∧ x = .int .i64 (codeTo bs p k : Nat) ∧ p + k ≤ 8 * len ∧ RdrAt wr r A len cap (p + k) ∧ Hid (∀ i, 0 < i → i ≤ k → hitB xs bs p i = false) ∧ Hid (w.grownBy wr (some r))) (fun _ i _ => 16 - (intOf i).toNat)
  case atStart => exact ⟨0, by omega, rfl, rfl, by omega, HR.out, (fun i h1 h2 => by omega), grown_refl w _⟩
  case round =>
    obtain ⟨k, hk, rfl, rfl, hpk, hR, Hno, Hg⟩ := hrel
    have HRk := Lib.hid hR
    clear hR
    by_cases hlt : k < 15
    · by_cases hmore : p + k < 8 * len
      · go_wp2_with fail
        refine (Bits_calls r A len cap (p + k) 1 bs _ HRk.out (HB.out.grown Hg.out hne) Hb.out hne (by omega) hpk (by omega) (by omega)).mono ?_
        rintro e w2 ⟨rfl, hR2, hg2⟩
        rw [numAt_one]
        obtain ⟨m, v, hm, hbase, hCA, hmm, hown⟩ := HC.out
        have hg02 := grown_trans Hg.out hg2
        have hC2 : CoderAt w2 h m v := (hg02.block h hCA.lt (by simpa using hhr)).trans hCA
        obtain ⟨q1, q2, q3⟩ := hmm (1 + k) (by omega) (by omega)
        have cf := hC2.cell (j := 1 + k) (by omega)
        have cc := hC2.cell (j := 16 + (1 + k)) (by omega)
        have ca := hC2.cell (j := 32 + (1 + k)) (by omega)
        rw [q1] at cf
        rw [q2] at cc
        rw [q3] at ca
        have cl := hC2.last hm
        have hbt := bitAt_le bs (p + k)
        have hcode : codeTo bs p (1 + k) = 2 * codeTo bs p k + bitAt bs (p + k) := by rw [Nat.add_comm]; rfl
        have hclt := codeTo_lt bs p k
        have hpow : (2 : Nat) ^ k ≤ 2 ^ 15 := Nat.pow_le_pow_right (by omega) (by omega)
        have hp15 : (2 : Nat) ^ 15 = 32768 := by decide
        have hcl : codeTo bs p k ≤ 32768 := by omega
        have hfr := firstAt_le (cntOf xs) xs.length (by omega) (rd_cntOf xs) (1 + k) (by omega)
        have hroom := symsTo_room xs (1 + k) (by omega) (by omega)
        have s2 : ((1 : Int) + k).toNat = 1 + k := by omega
        have s3 : (0 : Int) ≤ 1 + k := by omega
        have s4 : (1 : Int) + k < 16 := by omega
        have e1 : (2 : Int) * (codeTo bs p k : Nat) + (bitAt bs (p + k) : Nat) = (codeTo bs p (1 + k) : Nat) := by rw [hcode]; omega
        have HC2 := Lib.hid hC2
        have HR2 := Lib.hid hR2
        have Hg2 := Lib.hid hg02
        have Hown := Lib.hid hown
        have Hcode := Lib.hid hcode
        clear hC2 hR2 hg02 hg2 hown hmm hCA q1 q2 q3 hpow hclt hp15 hcode
        have E1 := Lib.hid e1
        clear e1
        rcases Int.lt_or_le (2 * ((codeTo bs p k : Nat) : Int) + (bitAt bs (p + k) : Nat)) (firstAt (cntOf xs) (1 + k)) with t1 | t1
        · have hmiss : Hid (hitB xs bs p (1 + k) = false) := by show hitB xs bs p (1 + k) = false; unfold hitB; rw [← E1.out]; simp; omega
          have t3 : 2 * ((codeTo bs p k : Nat) : Int) + (bitAt bs (p + k) : Nat) - firstAt (cntOf xs) (1 + k) < 0 := by omega
          go_wp2
          go_roundw
          case rel =>
            refine ⟨k + 1, by omega, by go_num, ?_, by omega, by rw [← Nat.add_assoc]; exact HR2.out, ?_, Hg2.out⟩
            · rw [Nat.add_comm k 1, ← E1.out]
            · intro i h1 h2
              rcases Nat.lt_or_ge k i with h | h
              · rw [show i = 1 + k from by omega]; exact hmiss.out
              · exact Hno.out i h1 h
          case measure => simp [intOf]; omega
        · have t3 : (0 : Int) ≤ 2 * ((codeTo bs p k : Nat) : Int) + (bitAt bs (p + k) : Nat) - firstAt (cntOf xs) (1 + k) := by omega
          rcases Int.lt_or_le (2 * ((codeTo bs p k : Nat) : Int) + (bitAt bs (p + k) : Nat) - firstAt (cntOf xs) (1 + k)) (rd (cntOf xs) (1 + k)) with t2 | t2
          · have hhit : Hid (hitB xs bs p (1 + k) = true) := by show hitB xs bs p (1 + k) = true; unfold hitB; rw [← E1.out]; simp only [t3, t2, decide_true]; rfl
            have hsl := symsTo_le xs 15
            obtain ⟨J, hJ⟩ : ∃ J : Nat, (J : Int) = ((symsTo xs (1 + k - 1)).length : Nat) + (2 * ((codeTo bs p k : Nat) : Int) + (bitAt bs (p + k) : Nat) - firstAt (cntOf xs) (1 + k)) := ⟨_, Int.toNat_of_nonneg (by omega)⟩
            have hJlt : J < (symsTo xs 15).length := by omega
            have hsym : symAt xs bs p (1 + k) = rd (symsTo xs 15) J := by
              unfold symAt
              rw [← E1.out, show (symsTo xs (1 + k - 1)).length + (2 * ((codeTo bs p k : Nat) : Int) + (bitAt bs (p + k) : Nat) - firstAt (cntOf xs) (1 + k)).toNat = J from by omega]
            have s5 : IntKind.i64.wrap (((symsTo xs (1 + k - 1)).length : Nat) + (2 * ((codeTo bs p k : Nat) : Int) + (bitAt bs (p + k) : Nat) - firstAt (cntOf xs) (1 + k))) = (J : Int) := by rw [← hJ]; exact IntWalk.i64_in _ (by omega)
            have hown2 := Hown.out.kept Hg2.out (.inr (own_ne HR.out (by decide) Hown.out))
            obtain ⟨g, gc, rfl, _, _, hgc, hgcell, _⟩ := own_form hown2 (by omega)
            have hz := hgcell J _ (ints_get hJlt)
            have Hsym := Lib.hid hsym
            clear hown2 hgcell hsym hJ Hown HC hroom
            generalize hSL : (symsTo xs 15).length = SL at *
            generalize hSA : ((symsTo xs (1 + k - 1)).length : Int) = SA at *
            go_wp2
            go_region
            go_wp2
            refine bodyPost_ret (v := .tuple #[.int .i64 (rd (symsTo xs 15) J), .bool true]) (by simp [results, Tryz.results84, go_sem]) rfl ⟨.inl ⟨1 + k, by omega, by omega, by omega, ?_, hhit.out, by rw [Hsym.out], by rw [← Nat.add_assoc, Nat.add_right_comm]; exact HR2.out⟩, ?_⟩
            · intro i h1 h2
              exact Hno.out i h1 (by omega)
            · exact grown_below Hg2.out (Below.refl _ _).drew
          · have hmiss : Hid (hitB xs bs p (1 + k) = false) := by show hitB xs bs p (1 + k) = false; unfold hitB; rw [← E1.out, decide_eq_false (p := _ < _) (by omega), Bool.and_false]
            go_wp2
            go_roundw
            case rel =>
              refine ⟨k + 1, by omega, by go_num, ?_, by omega, by rw [← Nat.add_assoc]; exact HR2.out, ?_, Hg2.out⟩
              · rw [Nat.add_comm k 1, ← E1.out]
              · intro i h1 h2
                rcases Nat.lt_or_ge k i with h | h
                · rw [show i = 1 + k from by omega]; exact hmiss.out
                · exact Hno.out i h1 h
            case measure => simp [intOf]; omega
      · go_wp2_with fail
        refine (BitsShort_calls r A len cap (p + k) 1 _ HRk.out (by omega) hpk (by omega) (by omega)).mono ?_
        rintro e w2 ⟨rfl, hb2⟩
        have HR2 := Lib.hid (HRk.out.keep hb2)
        have Hg2 := Lib.hid (grown_below Hg.out hb2)
        clear hb2
        go_wp2
        refine bodyPost_ret (v := .tuple #[.int .i64 0, .bool false]) (by simp [results, Tryz.results84, go_sem]) rfl ⟨.inr ⟨k, hk, hpk, Hno.out, .inr (by omega), rfl, HR2.out⟩, Hg2.out⟩
    · have hk15 : k = 15 := by omega
      go_wp2
      refine bodyPost_ret (v := .tuple #[.int .i64 0, .bool false]) (by simp [results, Tryz.results84, go_sem]) rfl ⟨.inr ⟨k, hk, hpk, Hno.out, .inl hk15, rfl, HRk.out⟩, Hg.out⟩
end Go.Proofs.YtdbkbeojedndbaaGreatDoor
namespace Go.Proofs.YtdbkbeojedndbaaGreatDoor
open Go.RowKit

theorem rd_appL {a b : List Int} {i : Nat} (h : i < a.length) : rd (a ++ b) i = rd a i := by
 unfold rd
 rw [List.getD_eq_getElem?_getD, List.getD_eq_getElem?_getD, List.getElem?_append_left h]
theorem rd_appR {a b : List Int} (i : Nat) : rd (a ++ b) (a.length + i) = rd b i := by
 unfold rd
 rw [List.getD_eq_getElem?_getD, List.getD_eq_getElem?_getD, List.getElem?_append_right (Nat.le_add_right _ _), Nat.add_sub_cancel_left]
theorem own_none {w : World} {base n c : Nat} {e : TypeId} {size : Nat} {A : Option Addr} {xs : List Value} (h : w.ownsRow base e size (.slice A n c) n xs) : A = none → n = 0 ∧ c = 0 := by
 intro hA
 subst hA
 rcases h.2 with ⟨h1, h2⟩ | ⟨g, cap, cur, h1, _⟩
 ·simp at h1
  exact ⟨h2, h1.2⟩
 ·cases h1
theorem Rd.apart {w0 w w1 : World} {k : IntKind} {A : Option Addr} {n : Nat} {xs : List Int} (h0 : Rd w0 k A n xs) (h : Rd w k A n xs) {r : Nat} (hg : w.grownBy w1 (some r)) (hr : w0.heap.size ≤ r) : Rd w1 k A n xs :=
 ⟨h.1, fun hn => by
  obtain ⟨b, o, e, hc⟩ := h.2 hn
  obtain ⟨b', o', e', hc'⟩ := h0.2 hn
  rw [e] at e'
  cases e'
  have hlt := World.block_lt_of_cell? _ _ (hc' 0 hn)
  exact ⟨b, o, e, fun j hj => hg.cell (hc j hj) (by simp at hlt ⊢; omega)⟩⟩
end Go.Proofs.YtdbkbeojedndbaaGreatDoor
namespace Go.Proofs.YtdbkbeojedndbaaGreatDoor
open Go.RowKit

theorem firstAt_far (c : List Int) (hc : ∀ j, j < 16 → 0 ≤ rd c j) (k d : Nat) (h : k + d + 1 ≤ 16) : 2 ^ (d + 1) * (firstAt c k + rd c k) ≤ firstAt c (k + d + 1) := by
  induction d with
  | zero => simp [firstAt]
  | succ d ih =>
    have h1 := ih (by omega)
    have h2 := hc (k + d + 1) (by omega)
    have e : (2 : Int) ^ (d + 1 + 1) * (firstAt c k + rd c k) = 2 * (2 ^ (d + 1) * (firstAt c k + rd c k)) := by rw [Int.pow_succ, Int.mul_comm _ 2, Int.mul_assoc]
    have e2 : firstAt c (k + (d + 1) + 1) = 2 * (firstAt c (k + d + 1) + rd c (k + d + 1)) := rfl
    rw [e, e2]
    omega
theorem codeTo_far (bs : List Int) (p k d : Nat) : 2 ^ d * codeTo bs p k ≤ codeTo bs p (k + d) ∧ codeTo bs p (k + d) + 1 ≤ 2 ^ d * (codeTo bs p k + 1) := by
  induction d with
  | zero => simp
  | succ d ih =>
    have hb := bitAt_le bs (p + (k + d))
    have e1 : 2 ^ (d + 1) * codeTo bs p k = 2 * (2 ^ d * codeTo bs p k) := by rw [Nat.pow_succ, Nat.mul_comm _ 2, Nat.mul_assoc]
    have e2 : 2 ^ (d + 1) * (codeTo bs p k + 1) = 2 * (2 ^ d * (codeTo bs p k + 1)) := by rw [Nat.pow_succ, Nat.mul_comm _ 2, Nat.mul_assoc]
    have e3 : codeTo bs p (k + (d + 1)) = 2 * codeTo bs p (k + d) + bitAt bs (p + (k + d)) := rfl
    rw [e1, e2, e3]
    omega
theorem hitB_iff (xs bs : List Int) (p k : Nat) : hitB xs bs p k = true ↔ firstAt (cntOf xs) k ≤ (codeTo bs p k : Int) ∧ (codeTo bs p k : Int) < firstAt (cntOf xs) k + rd (cntOf xs) k := by
  unfold hitB
  rw [Bool.and_eq_true, decide_eq_true_iff, decide_eq_true_iff]
  omega
theorem hitB_lt (xs bs : List Int) (p k d : Nat) (hd : k + d + 1 ≤ 15) (h1 : hitB xs bs p k = true) (h2 : hitB xs bs p (k + d + 1) = true) : False := by
  rw [hitB_iff] at h1 h2
  have f := firstAt_far (cntOf xs) (fun j hj => (rd_cntOf xs j hj).1) k d (by omega)
  have c := (codeTo_far bs p k (d + 1)).2
  have c2 : ((codeTo bs p (k + d + 1) : Nat) : Int) + 1 ≤ 2 ^ (d + 1) * ((codeTo bs p k : Int) + 1) := by
    have : ((codeTo bs p (k + (d + 1)) + 1 : Nat) : Int) ≤ ((2 ^ (d + 1) * (codeTo bs p k + 1) : Nat) : Int) := Int.ofNat_le.2 c
    rw [Int.natCast_mul, Int.natCast_pow] at this
    exact this
  have m : (2 : Int) ^ (d + 1) * ((codeTo bs p k : Int) + 1) ≤ 2 ^ (d + 1) * (firstAt (cntOf xs) k + rd (cntOf xs) k) := Int.mul_le_mul_of_nonneg_left (by omega) (Int.le_of_lt (Int.pow_pos (by omega)))
  omega
theorem before_mono (xs : List Int) (k : Int) {s t : Nat} (h : s ≤ t) : before xs k s ≤ before xs k t := by
  unfold before
  refine List.Sublist.length_le (List.Sublist.filter _ ?_)
  rw [show s = min s t from by omega, ← List.take_take]
  exact List.take_sublist _ _
theorem before_lt (xs : List Int) (k : Int) {s t : Nat} (h : s < t) (ht : s < xs.length) (hk : rd xs s = k) : before xs k s < before xs k t := by
  have h1 := before_hit xs k s ht hk
  have h2 := before_mono xs k (s := s + 1) (t := t) h
  omega
def Hit (xs bs : List Int) (p m s : Nat) : Prop := s < xs.length ∧ 0 < rd xs s ∧ rd xs s ≤ 15 ∧ (rd xs s).toNat ≤ m ∧ ((codeTo bs p (rd xs s).toNat : Nat) : Int) = codeAt xs s
theorem Hit.code {xs bs : List Int} {p m s : Nat} (h : Hit xs bs p m s) : ((codeTo bs p (rd xs s).toNat : Nat) : Int) = firstAt (cntOf xs) (rd xs s).toNat + (before xs (rd xs s) s : Nat) := by
  obtain ⟨_, h2, h3, _, h5⟩ := h
  rw [h5]
  unfold codeAt nextCode
  rw [if_pos ⟨h2, h3⟩, Int.toNat_of_nonneg (by omega)]
theorem Hit.b {xs bs : List Int} {p m s : Nat} (h : Hit xs bs p m s) : hitB xs bs p (rd xs s).toNat = true := by
  have c := h.code
  obtain ⟨h1, h2, h3, _, _⟩ := h
  rw [hitB_iff, c, rd_cntOf_pos xs (rd xs s).toNat (by omega) (by omega), Int.toNat_of_nonneg (by omega)]
  have := before_lt xs (rd xs s) h1 h1 rfl
  omega
theorem Hit.one {xs bs : List Int} {p m s t : Nat} (h : Hit xs bs p m s) (g : Hit xs bs p m t) : s = t := by
  have b1 := h.b
  have b2 := g.b
  have c1 := h.code
  have c2 := g.code
  obtain ⟨h1, h2, h3, _, _⟩ := h
  obtain ⟨g1, g2, g3, _, _⟩ := g
  rcases Nat.lt_trichotomy (rd xs s).toNat (rd xs t).toNat with q | q | q
  · obtain ⟨d, hd⟩ : ∃ d, (rd xs t).toNat = (rd xs s).toNat + d + 1 := ⟨(rd xs t).toNat - (rd xs s).toNat - 1, by omega⟩
    rw [hd] at b2
    exact (hitB_lt xs bs p _ d (by omega) b1 b2).elim
  · have e : rd xs s = rd xs t := by omega
    rw [← q, ← e, c1] at c2
    rcases Nat.lt_trichotomy s t with z | z | z
    · have := before_lt xs (rd xs s) z h1 rfl
      omega
    · exact z
    · have := before_lt xs (rd xs s) z g1 e.symm
      omega
  · obtain ⟨d, hd⟩ : ∃ d, (rd xs s).toNat = (rd xs t).toNat + d + 1 := ⟨(rd xs s).toNat - (rd xs t).toNat - 1, by omega⟩
    rw [hd] at b1
    exact (hitB_lt xs bs p _ d (by omega) b2 b1).elim
theorem ofLen_at (xs : List Int) (k : Nat) : ∀ n, n ≤ xs.length → ∀ i, i < (ofLen xs k n).length → ∃ s : Nat, s < n ∧ rd xs s = k ∧ before xs k s = i ∧ rd (ofLen xs k n) i = s := by
  intro n
  induction n with
  | zero => intro _ i hi; simp [ofLen] at hi
  | succ n ih =>
    intro hn i hi
    by_cases e : rd xs n = k
    · rw [ofLen_hit xs k n e] at hi ⊢
      rcases Nat.lt_or_ge i (ofLen xs k n).length with g | g
      · obtain ⟨s, h1, h2, h3, h4⟩ := ih (by omega) i g
        refine ⟨s, by omega, h2, h3, ?_⟩
        rw [← h4, rd_appL g]
      · rw [List.length_append, List.length_cons, List.length_nil] at hi
        have ei : i = (ofLen xs k n).length := by omega
        refine ⟨n, by omega, e, by rw [ei, ofLen_len xs k n (by omega)], ?_⟩
        rw [ei, show (ofLen xs k n).length = (ofLen xs k n).length + 0 from rfl, rd_appR]
        rfl
    · rw [ofLen_miss xs k n e] at hi ⊢
      obtain ⟨s, h1, h2, h3, h4⟩ := ih (by omega) i hi
      exact ⟨s, by omega, h2, h3, h4⟩
theorem symsTo_split (xs : List Int) (j d : Nat) : ∃ r, symsTo xs (j + 1 + d) = symsTo xs j ++ (ofLen xs (j + 1) xs.length ++ r) := by
  induction d with
  | zero => exact ⟨[], by simp [symsTo]⟩
  | succ d ih =>
    obtain ⟨r, h⟩ := ih
    exact ⟨r ++ ofLen xs (j + 1 + d + 1) xs.length, by
      show symsTo xs (j + 1 + d) ++ _ = _
      rw [h, List.append_assoc, List.append_assoc]
      rfl⟩
theorem hit_sym (xs bs : List Int) (p m k : Nat) (h0 : 0 < k) (h15 : k ≤ 15) (hm : k ≤ m) (h : hitB xs bs p k = true) : ∃ s : Nat, Hit xs bs p m s ∧ rd xs s = k ∧ symAt xs bs p k = s := by
  rw [hitB_iff, rd_cntOf_pos xs k h0 (by omega)] at h
  obtain ⟨i, hi⟩ : ∃ i : Nat, (codeTo bs p k : Int) = firstAt (cntOf xs) k + i := ⟨((codeTo bs p k : Int) - firstAt (cntOf xs) k).toNat, by omega⟩
  have hlen := ofLen_len xs k xs.length (Nat.le_refl _)
  obtain ⟨s, h1, h2, h3, h4⟩ := ofLen_at xs k xs.length (Nat.le_refl _) i (by omega)
  refine ⟨s, ⟨h1, by omega, by omega, by omega, ?_⟩, h2, ?_⟩
  · unfold codeAt nextCode
    rw [if_pos ⟨by omega, by omega⟩, h2, Int.toNat_natCast, hi, h3]
  · obtain ⟨j, rfl⟩ : ∃ j, k = j + 1 := ⟨k - 1, by omega⟩
    obtain ⟨r, hr⟩ := symsTo_split xs j (15 - (j + 1))
    rw [show j + 1 + (15 - (j + 1)) = 15 from by omega] at hr
    unfold symAt
    rw [show ((codeTo bs p (j + 1) : Int) - firstAt (cntOf xs) (j + 1)).toNat = i from by omega, hr, Nat.add_sub_cancel, ← h4, rd_appR, rd_appL (by omega)]
theorem Next_hit (h r base : Nat) (A : Option Addr) (len cap p : Nat) (xs bs : List Int) (w : World) (hC : Coder w base h xs) (hxs : xs.length ≤ 1000000) (hR : RdrAt w r A len cap p) (hB : Rd w .u8 A len bs) (hb : ∀ j, j < len → 0 ≤ rd bs j ∧ rd bs j ≤ 255) (hne : ∀ b o, A = some ⟨b, o, none⟩ → b ≠ r) (hlen : len ≤ 1000000) (hp : p ≤ 8 * len) (hhr : h ≠ r) :
    Calls Tryz.prog 84 #[.pointer (some ⟨h, 0, none⟩), .pointer (some ⟨r, 0, none⟩)] w fun e w' =>
      ((∃ s : Nat, Hit xs bs p (8 * len - p) s ∧ e = .returned (.tuple #[.int .i64 s, .bool true]) ∧ RdrAt w' r A len cap (p + (rd xs s).toNat)) ∨
       ((∀ s, ¬ Hit xs bs p (8 * len - p) s) ∧ e = .returned (.tuple #[.int .i64 0, .bool false]) ∧ ∃ q, q ≤ 8 * len ∧ RdrAt w' r A len cap q)) ∧ w.grownBy w' (some r) := by
  refine (Next_calls h r base A len cap p xs bs w hC hxs hR hB hb hne hlen hp hhr).mono ?_
  rintro e w1 ⟨h1 | h1, hg⟩
  · obtain ⟨k, k0, k15, kp, kno, kh, rfl, kr⟩ := h1
    obtain ⟨s, s1, s2, s3⟩ := hit_sym xs bs p (8 * len - p) k k0 k15 (by omega) kh
    rw [s3]
    exact ⟨.inl ⟨s, s1, rfl, by rw [s2]; exact kr⟩, hg⟩
  · obtain ⟨k, k15, kp, kno, kk, rfl, kr⟩ := h1
    refine ⟨.inr ⟨fun s hs => ?_, rfl, _, by omega, kr⟩, hg⟩
    have hb1 := hs.b
    obtain ⟨_, g2, g3, g4, _⟩ := hs
    rw [kno _ (by omega) (by omega)] at hb1
    cases hb1
end Go.Proofs.YtdbkbeojedndbaaGreatDoor
namespace Go.Proofs.YtdbkbeojedndbaaGreatDoor
open Go.RowKit

def CodeInv (xs : List Int) (k s : Nat) (code : Int) (last : Nat) : Prop :=
 (last = 0 ∧ code = 0 ∧ nextCode xs k s = 0) ∨ (0 < last ∧ last ≤ k ∧ 0 ≤ code ∧ (code + 1) * 2 ^ (k - last) = nextCode xs k s)
theorem CodeInv.miss {xs : List Int} {k s last : Nat} {code : Int} (h : CodeInv xs k s code last) (hs : s < xs.length) (hx : rd xs s ≠ k) : CodeInv xs k (s + 1) code last := by
 have e : nextCode xs k (s + 1) = nextCode xs k s := by unfold nextCode; rw [before_miss xs k s hs hx]
 unfold CodeInv at *
 rw [e]
 exact h
theorem CodeInv.hit {xs : List Int} {k s : Nat} (hs : s < xs.length) (hx : rd xs s = k) (hk : 0 < k) (h0 : 0 ≤ nextCode xs k s) : CodeInv xs k (s + 1) (nextCode xs k s) k := by
 have e : nextCode xs k (s + 1) = nextCode xs k s + 1 := by unfold nextCode; rw [before_hit xs k s hs hx]; omega
 refine .inr ⟨hk, Nat.le_refl _, h0, ?_⟩
 rw [e, Nat.sub_self]
 omega
theorem CodeInv.over {xs : List Int} {k last : Nat} {code : Int} (h : CodeInv xs k xs.length code last) (hk : 0 < k) (hk2 : k < 16) : CodeInv xs (k + 1) 0 code last := by
 have e := nextCode_over xs k hk hk2
 rcases h with ⟨h1, h2, h3⟩ | ⟨h1, h2, h3, h4⟩
 ·exact .inl ⟨h1, h2, by rw [e, h3]; rfl⟩
 ·refine .inr ⟨h1, by omega, h3, ?_⟩
  rw [e, ← h4, show k + 1 - last = (k - last) + 1 from by omega, Int.pow_succ, ← Int.mul_assoc, Int.mul_comm]

theorem elU64r : ElT Tryz.prog 68 36 (.int .u64 0) 1 8 := elU64
set_option maxHeartbeats 2000000 in
set_option maxRecDepth 200000 in
theorem refCodes_calls (A : Option Addr) (n cap : Nat) (xs : List Int) (w : World) (hR : Rd w .i64 A n xs) (hn : n ≤ 1000000) :
  Calls Tryz.prog 36 #[.slice A n cap] w fun e w' => ∃ v, e = .returned v ∧ w'.ownsRow w.heap.size 36 1 v n (ints .u64 (codesOf xs)) ∧ Below w.heap.size w w' := by
 have HR := Lib.hid hR
 have hlen := Lib.hid hR.1
 clear hR
 go_enter Tryz.func36, Tryz.ntmps36
 go_wp2_with (at_make; refine wpList_mk1 (base := w.heap.size) (n := n) _ rfl _ _ rfl elU64 rfl rfl rfl rfl (by omega) (Nat.le_refl _) ?_; intro w4 hown4 hb4 hsz4)
 have Hown4 := Lib.hid hown4
 have Hb4 := Lib.hid hb4
 clear hown4 hb4
 go_loopw [4, 5, 6] (fun x y i wr => ∃ (k last : Nat) (code : Int) (l : List Int), 1 ≤ k ∧ k ≤ 16 ∧ i = .int .i64 k ∧ x = .int .u64 code ∧ y = .int .i64 last ∧ Hid (CodeInv xs k 0 code last) ∧ wr.ownsRow w.heap.size 36 1 (.slice (some ⟨w.heap.size, 0, none⟩) n n) n (ints .u64 l) ∧ Hid (∀ j, j < n → rd l j = if 0 < rd xs j ∧ rd xs j < k then codeAt xs j else 0) ∧ Below w.heap.size w wr) (fun _ _ i _ => 16 - (intOf i).toNat)
 case atStart =>
  refine ⟨1, 0, 0, _, by omega, by omega, rfl, rfl, rfl, .inl ⟨rfl, rfl, nextCode_one xs⟩, Hown4.out, ?_, Hb4.out⟩
  intro j hj
  rw [if_neg (by omega), rd_getElem (by rw [List.length_replicate]; exact hj), List.getElem_replicate]
 case round =>
  obtain ⟨k, last, code, l, hk1, hk2, rfl, rfl, rfl, Hinv, hown, Hl, hbel⟩ := hrel
  have Hown := Lib.hid hown
  have Hbel := Lib.hid hbel
  clear hown hbel
  by_cases hlt : k ≤ 15
  ·obtain ⟨wo, hwo⟩ : ∃ wo : World, wo = wr := ⟨_, rfl⟩
   subst hwo
   go_wp2
   go_loopw [4, 5, 7] (fun x y i wr => ∃ (s last : Nat) (code : Int) (l : List Int), s ≤ n ∧ i = .int .i64 s ∧ x = .int .u64 code ∧ y = .int .i64 last ∧ Hid (CodeInv xs k s code last) ∧ wr.ownsRow w.heap.size 36 1 (.slice (some ⟨w.heap.size, 0, none⟩) n n) n (ints .u64 l) ∧ Hid (∀ j, j < n → rd l j = if 0 < rd xs j ∧ (rd xs j < k ∨ (rd xs j = k ∧ j < s)) then codeAt xs j else 0) ∧ Below w.heap.size w wr) (fun _ _ i _ => n - (intOf i).toNat)
   case atStart =>
    refine ⟨0, last, code, l, by omega, rfl, rfl, rfl, Hinv, Hown.out, ?_, Hbel.out⟩
    intro j hj
    rw [Hl.out j hj]
    by_cases g : 0 < rd xs j ∧ rd xs j < k
    ·rw [if_pos g, if_pos ⟨g.1, .inl g.2⟩]
    ·rw [if_neg g, if_neg (by omega)]
   case round =>
    obtain ⟨s, last, code, l, hs, rfl, rfl, rfl, Hinv, hown, Hl, hbel⟩ := hrel
    have hll : l.length = n := by have := hown.1; simpa [ints] using this
    have Hown := Lib.hid hown
    have Hbel := Lib.hid hbel
    clear hown hbel
    by_cases hlt2 : s < n
    ·obtain ⟨b, o, rfl, hcx⟩ := HR.out.2 (by omega)
     have z := kept_cell Hbel.out (hcx s hlt2)
     clear hcx
     cases hx : (rd xs s != (k : Int))
     ·have hxk : rd xs s = k := by simpa using hx
      have HX := Lib.hid hxk
      have hv := nextCode_range xs k s (by omega)
      rw [hlen.out] at hv
      have xc := Hown.out.cellAt s (by omega)
      rw [ints_get (by omega)] at xc
      have xf := Hown.out.frozenAt s
      have hnew := Lib.hid (CodeInv.hit (by rw [hlen.out]; exact hlt2) hxk (by omega) hv.1)
      have e1 : codeAt xs s = nextCode xs k s := by
       unfold codeAt
       rw [if_pos (by omega), hxk]
       rfl
      have E1 := Lib.hid e1
      have Hl3 : Hid (∀ j, j < n → rd (l.set s (nextCode xs k s)) j = if 0 < rd xs j ∧ (rd xs j < k ∨ (rd xs j = k ∧ j < s + 1)) then codeAt xs j else 0) := fun j hj => by
       rw [rd_set (by omega)]
       by_cases g2 : s = j
       ·subst g2; rw [if_pos rfl, if_pos (by omega), E1.out]
       ·rw [if_neg g2, Hl.out j hj]
        by_cases g : 0 < rd xs j ∧ (rd xs j < k ∨ (rd xs j = k ∧ j < s))
        ·rw [if_pos g, if_pos (by omega)]
        ·rw [if_neg g, if_neg (by omega)]
      rcases Hinv.out with ⟨i1, i2, i3⟩ | ⟨i1, i2, i3, i4⟩
      ·subst i1 i2
       rw [i3] at hnew Hl3
       clear hxk e1 hv i3
       go_wp2
       go_roundw
       case rel =>
        exact ⟨s + 1, k, 0, l.set s 0, by omega, by go_num, rfl, rfl, hnew, by rw [ints_set]; exact (Hown.out.stored s _).1, Hl3, Hbel.out.setCell (Nat.le_refl _) _⟩
       case measure => simp [intOf]; omega
      ·have hle : code + 1 ≤ (code + 1) * 2 ^ (k - last) := by
        have h1 : (1 : Int) ≤ 2 ^ (k - last) := by
         have : (1 : Nat) ≤ 2 ^ (k - last) := Nat.one_le_two_pow
         exact_mod_cast this
        have h2 := Int.mul_le_mul_of_nonneg_left h1 (show 0 ≤ code + 1 by omega)
        rw [Int.mul_one] at h2
        exact h2
       have ev : IntKind.u64.wrap (IntKind.u64.wrap (code + 1) * 2 ^ (k - last)) = nextCode xs k s := by
        rw [IntWalk.u64_in (code + 1) (by rw [i4] at hle; omega), i4]
        exact IntWalk.u64_in _ (by omega)
       have Ev := Lib.hid ev
       clear hxk e1 i4 hle ev
       go_wp2
       rw [Ev.out]
       go_roundw
       case rel =>
        exact ⟨s + 1, k, nextCode xs k s, l.set s (nextCode xs k s), by omega, by go_num, rfl, rfl, hnew, by rw [ints_set]; exact (Hown.out.stored s _).1, Hl3, Hbel.out.setCell (Nat.le_refl _) _⟩
       case measure => simp [intOf]; omega
     ·have hxk : rd xs s ≠ k := by simpa using hx
      have hnew := Lib.hid (CodeInv.miss Hinv.out (by rw [hlen.out]; exact hlt2) hxk)
      have Hx := Lib.hid hxk
      clear hxk
      go_wp2
      go_roundw
      case rel =>
       refine ⟨s + 1, last, code, l, by omega, by go_num, rfl, rfl, hnew, Hown.out, ?_, Hbel.out⟩
       intro j hj
       rw [Hl.out j hj]
       by_cases g2 : s = j
       ·subst g2
        have := Hx.out
        by_cases g : 0 < rd xs s ∧ (rd xs s < k ∨ (rd xs s = k ∧ s < s))
        ·rw [if_pos g, if_pos (by omega)]
        ·rw [if_neg g, if_neg (by omega)]
       ·by_cases g : 0 < rd xs j ∧ (rd xs j < k ∨ (rd xs j = k ∧ j < s))
        ·rw [if_pos g, if_pos (by omega)]
        ·rw [if_neg g, if_neg (by omega)]
      case measure => simp [intOf]; omega
    ·have hsn : s = n := by omega
     have hinv := Hinv.out
     rw [hsn, ← hlen.out] at hinv
     have hover := Lib.hid (CodeInv.over hinv (by omega) (by omega))
     clear hinv
     go_wp2
     go_roundw
     case rel =>
      refine ⟨k + 1, last, code, l, by omega, by omega, by go_num, rfl, rfl, hover, Hown.out, ?_, Hbel.out⟩
      intro j hj
      rw [Hl.out j hj]
      by_cases g : 0 < rd xs j ∧ (rd xs j < k ∨ (rd xs j = k ∧ j < s))
      ·rw [if_pos g, if_pos (by omega)]
      ·rw [if_neg g, if_neg (by omega)]
     case measure => simp [intOf]; omega
  ·have hk16 : k = 16 := by omega
   have hll : l.length = n := by have := Hown.out.1; simpa [ints] using this
   have e : l = codesOf xs := ext_rd (by rw [hll, codesOf_length, hlen.out]) (fun j hj => by
    rw [Hl.out j (by omega), rd_codesOf _ _ (by rw [hlen.out]; omega)]
    by_cases g : 0 < rd xs j ∧ rd xs j < k
    ·rw [if_pos g]
    ·rw [if_neg g]
     unfold codeAt
     rw [if_neg (by omega)])
   subst e
   clear hk16
   go_wp2
   go_ret
   exact ⟨_, rfl, Hown.out, Hbel.out⟩
end Go.Proofs.YtdbkbeojedndbaaGreatDoor
namespace Go.Proofs.YtdbkbeojedndbaaGreatDoor
open Go.RowKit

set_option maxHeartbeats 2000000 in
set_option maxRecDepth 100000 in
theorem refNext_calls (A : Option Addr) (n cap : Nat) (xs : List Int) (B : Option Addr) (m d p : Nat) (ys bs : List Int) (w : World) (hR : Rd w .i64 A n xs) (hn : n ≤ 1000000) (hok : lensOk xs = true) (hB : Rd w .u8 B m ys) (hy : ∀ i, i < m → rd ys i = ((bitAt bs (p + i) : Nat) : Int)) (hm : m ≤ 10000000) :
  Calls Tryz.prog 22 #[.slice A n cap, .slice B m d] w fun e w' =>
   ((∃ s : Nat, Hit xs bs p m s ∧ e = .returned (.tuple #[.int .i64 s, .int .i64 (rd xs s)])) ∨ ((∀ s, ¬ Hit xs bs p m s) ∧ e = .returned (.tuple #[.int .i64 (-1), .int .i64 0]))) ∧ Below w.heap.size w w' := by
 have HR := Lib.hid hR
 have HB := Lib.hid hB
 have Hy := Lib.hid hy
 have hxl := Lib.hid hR.1
 have Hok := Lib.hid hok
 clear hR hB hy hok
 go_enter Tryz.func22, Tryz.ntmps22
 go_wp2_with fail
 refine (refCodes_calls A n cap xs _ HR.out hn).mono ?_
 rintro e w1 ⟨v1, rfl, ho1, hb1⟩
 obtain ⟨C1, c1, rfl, _, hc1⟩ := own_rd ho1
 have HR1 := Lib.hid (HR.out.below hb1)
 have HB1 := Lib.hid (HB.out.below hb1)
 have Hc1 := Lib.hid hc1
 have Hb1 := Lib.hid hb1
 clear ho1 hc1 hb1
 go_wp2
 go_loop [7] (fun i => ∃ k : Nat, k ≤ n ∧ i = .int .i64 k ∧ Hid (∀ t, t < k → ¬ Hit xs bs p m t)) (fun i => n - (intOf i).toNat)
 case atStart => exact ⟨0, by omega, rfl, fun t ht => by omega⟩
 case round =>
  obtain ⟨k, hk, rfl, Hno⟩ := hrel
  by_cases hlt : k < n
  ·obtain ⟨b, o, rfl, hcx⟩ := HR1.out.2 (by omega)
   have z := hcx k hlt
   clear hcx
   have hrng := lensOk_at Hok.out k (by rw [hxl.out]; exact hlt)
   obtain ⟨L, hL⟩ : ∃ L : Nat, rd xs k = L := ⟨(rd xs k).toNat, by omega⟩
   rw [hL] at z hrng
   have HL := Lib.hid hL
   clear hL
   have next : Hid (¬ Hit xs bs p m k → ∀ t, t < k + 1 → ¬ Hit xs bs p m t) := fun h t ht => by
    by_cases e : t < k
    ·exact Hno.out t e
    ·rw [show t = k from by omega]; exact h
   by_cases h0 : L = 0
   ·subst h0
    go_wp2
    go_round
    case rel => exact ⟨k + 1, by omega, by go_num, next.out (fun h => by have := h.2.1; rw [HL.out] at this; omega)⟩
    case measure => simp [intOf]; omega
   ·have d0 : ((L : Int) == 0) = false := by simp; omega
    by_cases hLm : m < L
    ·go_wp2
     go_round
     case rel => exact ⟨k + 1, by omega, by go_num, next.out (fun h => by have := h.2.2.2.1; rw [HL.out] at this; omega)⟩
     case measure => simp [intOf]; omega
    ·go_wp2
     go_loop [9, 10] (fun c i => ∃ j : Nat, j ≤ L ∧ i = .int .i64 j ∧ c = .int .u64 (codeTo bs p j : Nat)) (fun _ i => L - (intOf i).toNat)
     case atStart => exact ⟨0, by omega, rfl, rfl⟩
     case round =>
      obtain ⟨j, hj, rfl, rfl⟩ := hrel
      by_cases hlt2 : j < L
      ·obtain ⟨b2, o2, rfl, hc2⟩ := HB1.out.2 (by omega)
       have y := hc2 j (by omega)
       rw [Hy.out j (by omega)] at y
       clear hc2
       have hcl := codeTo_lt bs p j
       have hpow : (2 : Nat) ^ j ≤ 2 ^ 15 := Nat.pow_le_pow_right (by omega) (by omega)
       have hp15 : (2 : Nat) ^ 15 = 32768 := by decide
       have hcl2 : codeTo bs p j ≤ 32768 := by omega
       have hbt := bitAt_le bs (p + j)
       have hcode : codeTo bs p (j + 1) = 2 * codeTo bs p j + bitAt bs (p + j) := rfl
       obtain ⟨C, hC⟩ : ∃ C, C = codeTo bs p j := ⟨_, rfl⟩
       obtain ⟨D, hD⟩ : ∃ D, D = bitAt bs (p + j) := ⟨_, rfl⟩
       rw [← hC, ← hD] at hcode
       rw [← hC] at hcl2 ⊢
       rw [← hD] at y hbt
       have Hcode := Lib.hid hcode
       clear hcl hpow hp15 hC hD hcode
       go_wp2
       go_round
       case rel => exact ⟨j + 1, by omega, by go_num, by rw [Hcode.out]; go_num⟩
       case measure => simp [intOf]; omega
      ·obtain rfl : j = L := by omega
       obtain ⟨b3, o3, rfl, hc3⟩ := Hc1.out.2 (by omega)
       have y := hc3 k hlt
       rw [rd_codesOf xs k (by rw [hxl.out]; exact hlt)] at y
       clear hc3
       have hit : Hid (((codeTo bs p j : Nat) : Int) = codeAt xs k ↔ Hit xs bs p m k) := by
        refine ⟨fun h => ⟨by rw [hxl.out]; exact hlt, by rw [HL.out]; omega, by rw [HL.out]; omega, by rw [HL.out]; omega, by rw [HL.out]; exact h⟩, fun h => ?_⟩
        have h5 := h.2.2.2.2
        rw [HL.out] at h5
        exact h5
       by_cases hcc : ((codeTo bs p j : Nat) : Int) = codeAt xs k
       ·have hH := Lib.hid (hit.out.1 hcc)
        go_wp2
        refine bodyPost_ret (v := .tuple #[.int .i64 k, .int .i64 j]) (by simp [results, Tryz.results22, go_sem]) rfl ⟨.inl ⟨k, hH.out, by rw [HL.out]⟩, Hb1.out⟩
       ·have hH := Lib.hid (fun h => hcc (hit.out.2 h))
        have d1 : (((codeTo bs p j : Nat) : Int) == codeAt xs k) = false := by simpa using hcc
        go_wp2
        go_round
        case rel => exact ⟨k + 1, by omega, by go_num, next.out hH.out⟩
        case measure => simp [intOf]; omega
  ·obtain rfl : k = n := by omega
   go_wp2
   refine bodyPost_ret (v := .tuple #[.int .i64 (-1), .int .i64 0]) (by simp [results, Tryz.results22, go_sem]) rfl ⟨.inr ⟨fun s hs => Hno.out s (by have := hs.1; rw [hxl.out] at this; exact this) hs, rfl⟩, Hb1.out⟩
end Go.Proofs.YtdbkbeojedndbaaGreatDoor
namespace Go.Proofs.YtdbkbeojedndbaaGreatDoor

def rowL (rows : List (Int × Int)) (k : Nat) : Int := (rows.getD k (0, 0)).1
def rowB (rows : List (Int × Int)) (k : Nat) : Int := (rows.getD k (0, 0)).2
def lastLe (rows : List (Int × Int)) (n : Int) : Nat → Nat
 | 0 => 0
 | k + 1 => if rowL rows k ≤ n then k else lastLe rows n k

theorem lastLe_lt (rows : List (Int × Int)) (n : Int) (k : Nat) (h : 0 < k) : lastLe rows n k < k := by
 induction k with
 | zero => omega
 | succ k ih =>
  simp only [lastLe]; split
  ·omega
  ·rcases Nat.eq_zero_or_pos k with rfl | hk
   ·simp [lastLe]
   ·have := ih hk; omega

theorem lastLe_hit (rows : List (Int × Int)) (n : Int) (k : Nat) (h : rowL rows k ≤ n) : lastLe rows n (k + 1) = k := by simp [lastLe, h]
theorem lastLe_miss (rows : List (Int × Int)) (n : Int) (k : Nat) (h : n < rowL rows k) : lastLe rows n (k + 1) = lastLe rows n k := by
 simp only [lastLe]; rw [if_neg (by omega)]
theorem lastLe_one (rows : List (Int × Int)) (n : Int) : lastLe rows n 1 = 0 := by simp [lastLe]

def lens : List (Int × Int) := [(3, 0), (4, 0), (5, 0), (6, 0), (7, 0), (8, 0), (9, 0), (10, 0), (11, 1), (13, 1), (15, 1), (17, 1), (19, 2), (23, 2), (27, 2), (31, 2), (35, 3), (43, 3), (51, 3), (59, 3), (67, 4), (83, 4), (99, 4), (115, 4), (131, 5), (163, 5), (195, 5), (227, 5), (258, 0)]
def dists : List (Int × Int) := [(1, 0), (2, 0), (3, 0), (4, 0), (5, 1), (7, 1), (9, 2), (13, 2), (17, 3), (25, 3), (33, 4), (49, 4), (65, 5), (97, 5), (129, 6), (193, 6), (257, 7), (385, 7), (513, 8), (769, 8), (1025, 9), (1537, 9), (2049, 10), (3073, 10), (4097, 11), (6145, 11), (8193, 12), (12289, 12), (16385, 13), (24577, 13)]
theorem lens_length : lens.length = 29 := rfl
theorem dists_length : dists.length = 30 := rfl

def symS (first : Int) (rows : List (Int × Int)) (n : Int) : Int := first + (lastLe rows n rows.length : Nat)
def symB (rows : List (Int × Int)) (n : Int) : Int := rowB rows (lastLe rows n rows.length)
def symX (rows : List (Int × Int)) (n : Int) : Int := n - rowL rows (lastLe rows n rows.length)
def clampL (n : Int) : Int := if n < 3 then 3 else if 258 < n then 258 else n
def clampD (n : Int) : Int := if n < 1 then 1 else if 32768 < n then 32768 else n

theorem all_lt {p : Nat → Bool} {n : Nat} (h : (List.range n).all p = true) (k : Nat) (hk : k < n) : p k = true := List.all_eq_true.1 h k (List.mem_range.2 hk)

theorem lens_range (j : Nat) (h : j < 29) : 3 ≤ rowL lens j ∧ rowL lens j ≤ 258 ∧ 0 ≤ rowB lens j ∧ rowB lens j ≤ 5 := by
 have := all_lt (p := fun j => decide (3 ≤ rowL lens j ∧ rowL lens j ≤ 258 ∧ 0 ≤ rowB lens j ∧ rowB lens j ≤ 5)) (n := 29) (by decide) j h
 simpa using this
theorem dists_range (j : Nat) (h : j < 30) : 1 ≤ rowL dists j ∧ rowL dists j ≤ 24577 ∧ 0 ≤ rowB dists j ∧ rowB dists j ≤ 13 := by
 have := all_lt (p := fun j => decide (1 ≤ rowL dists j ∧ rowL dists j ≤ 24577 ∧ 0 ≤ rowB dists j ∧ rowB dists j ≤ 13)) (n := 30) (by decide) j h
 simpa using this

theorem lastLe_le (rows : List (Int × Int)) (n : Int) (k : Nat) (h0 : rowL rows 0 ≤ n) : rowL rows (lastLe rows n k) ≤ n := by
 induction k with
 | zero => simpa [lastLe] using h0
 | succ k ih => simp only [lastLe]; split <;> assumption

theorem clampL_range (n : Int) : 3 ≤ clampL n ∧ clampL n ≤ 258 := by unfold clampL; split <;> (try split) <;> omega
theorem clampD_range (n : Int) : 1 ≤ clampD n ∧ clampD n ≤ 32768 := by unfold clampD; split <;> (try split) <;> omega

theorem lastLe_mono (rows : List (Int × Int)) (n m : Int) (h : n ≤ m) (k : Nat) : lastLe rows n k ≤ lastLe rows m k := by
 induction k with
 | zero => simp [lastLe]
 | succ k ih =>
  have h0 : lastLe rows n k ≤ k := by
   rcases Nat.eq_zero_or_pos k with rfl | hk
   ·simp [lastLe]
   ·have := lastLe_lt rows n k hk; omega
  simp only [lastLe]
  split
  ·rw [if_pos (by omega)]; exact Nat.le_refl _
  ·split
   ·exact h0
   ·exact ih
theorem sym_rise (first : Int) (rows : List (Int × Int)) (n m : Int) (h : n ≤ m) : symS first rows n < symS first rows m ∨ symS first rows n = symS first rows m ∧ symX rows n ≤ symX rows m := by
 have h1 := lastLe_mono rows n m h rows.length
 unfold symS symX
 rcases Nat.lt_or_ge (lastLe rows n rows.length) (lastLe rows m rows.length) with h2 | h2
 ·left; omega
 ·right
  have h3 : lastLe rows n rows.length = lastLe rows m rows.length := by omega
  rw [h3]
  exact ⟨rfl, by omega⟩
theorem clampL_mono {n m : Int} (h : n ≤ m) : clampL n ≤ clampL m := by unfold clampL; split <;> split <;> (try split) <;> (try split) <;> omega
theorem clampD_mono {n m : Int} (h : n ≤ m) : clampD n ≤ clampD m := by unfold clampD; split <;> split <;> (try split) <;> (try split) <;> omega
theorem clampL_lo {n : Int} (h : n < 3) : clampL n = 3 := if_pos h
theorem clampL_hi {n : Int} (h : 258 < n) : clampL n = 258 := by unfold clampL; rw [if_neg (by omega), if_pos h]
theorem clampL_in {n : Int} (h : 3 ≤ n) (h2 : n ≤ 258) : clampL n = n := by unfold clampL; rw [if_neg (by omega), if_neg (by omega)]
theorem clampD_lo {n : Int} (h : n < 1) : clampD n = 1 := if_pos h
theorem clampD_hi {n : Int} (h : 32768 < n) : clampD n = 32768 := by unfold clampD; rw [if_neg (by omega), if_pos h]
theorem clampD_in {n : Int} (h : 1 ≤ n) (h2 : n ≤ 32768) : clampD n = n := by unfold clampD; rw [if_neg (by omega), if_neg (by omega)]
theorem symL_range (n : Int) (h : 3 ≤ n) (h2 : n ≤ 258) : 257 ≤ symS 257 lens n ∧ symS 257 lens n ≤ 285 ∧ 0 ≤ symB lens n ∧ symB lens n ≤ 5 ∧ 0 ≤ symX lens n ∧ symX lens n ≤ 255 := by
 have h1 := lastLe_lt lens n lens.length (by decide)
 have h3 := lastLe_le lens n lens.length (by show (3 : Int) ≤ n; exact h)
 have h4 := lens_range (lastLe lens n lens.length) h1
 have h5 : lens.length = 29 := rfl
 unfold symS symB symX
 omega
theorem symD_range (n : Int) (h : 1 ≤ n) (h2 : n ≤ 32768) : 0 ≤ symS 0 dists n ∧ symS 0 dists n ≤ 29 ∧ 0 ≤ symB dists n ∧ symB dists n ≤ 13 ∧ 0 ≤ symX dists n ∧ symX dists n ≤ 32767 := by
 have h1 := lastLe_lt dists n dists.length (by decide)
 have h3 := lastLe_le dists n dists.length (by show (1 : Int) ≤ n; exact h)
 have h4 := dists_range (lastLe dists n dists.length) h1
 have h5 : dists.length = 30 := rfl
 unfold symS symB symX
 omega
theorem lastLe_gt (rows : List (Int × Int)) (n : Int) (k j : Nat) (h : lastLe rows n k < j) (hj : j < k) : n < rowL rows j := by
 induction k with
 | zero => omega
 | succ k ih =>
  simp only [lastLe] at h
  split at h
  ·omega
  ·rename_i hn
   rcases Nat.lt_or_ge j k with h2 | h2
   ·exact ih h h2
   ·obtain rfl : j = k := by omega
    omega
theorem lens_step : ∀ k : Nat, k < 29 → (k + 1 < 29 → rowL lens (k + 1) ≤ rowL lens k + 2 ^ (rowB lens k).toNat) ∧ (k + 1 = 29 → 258 < rowL lens k + 2 ^ (rowB lens k).toNat) := by decide +kernel
theorem dists_step : ∀ k : Nat, k < 30 → (k + 1 < 30 → rowL dists (k + 1) ≤ rowL dists k + 2 ^ (rowB dists k).toNat) ∧ (k + 1 = 30 → 32768 < rowL dists k + 2 ^ (rowB dists k).toNat) := by decide +kernel
theorem symXL_lt (n : Int) (h : 3 ≤ n) (h2 : n ≤ 258) : symX lens n < 2 ^ (symB lens n).toNat := by
 have h1 := lastLe_lt lens n lens.length (by decide)
 have h3 := lens_step (lastLe lens n lens.length) h1
 unfold symX symB
 rw [lens_length] at *
 rcases Nat.lt_or_ge (lastLe lens n 29 + 1) 29 with h4 | h4
 ·have h5 := lastLe_gt lens n 29 (lastLe lens n 29 + 1) (by omega) h4
  have := h3.1 h4
  omega
 ·have := h3.2 (by omega)
  omega
theorem symXD_lt (n : Int) (h : 1 ≤ n) (h2 : n ≤ 32768) : symX dists n < 2 ^ (symB dists n).toNat := by
 have h1 := lastLe_lt dists n dists.length (by decide)
 have h3 := dists_step (lastLe dists n dists.length) h1
 unfold symX symB
 rw [dists_length] at *
 rcases Nat.lt_or_ge (lastLe dists n 30 + 1) 30 with h4 | h4
 ·have h5 := lastLe_gt dists n 30 (lastLe dists n 30 + 1) (by omega) h4
  have := h3.1 h4
  omega
 ·have := h3.2 (by omega)
  omega
end Go.Proofs.YtdbkbeojedndbaaGreatDoor
