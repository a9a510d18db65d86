/-
  The walk of Next.
-/
import Derived.Test.YtempgkglhgelkaaHuffN
import Derived.Test.YtempgkglhgelkaaBits
import Derived.Deep.Cut
import Derived.Deep.CutRange
import Derived.BigQuiet
import Derived.Deep.RegionWith
namespace Go.Proofs.Ytempgkglhgelkaa
open Go.RowKit

/-- The number that k bits tell, the highest first. -/
def codeTo (bs : List Int) (p : Nat) : Nat → Nat
  | 0 => 0
  | k + 1 => 2 * codeTo bs p k + bitAt bs (p + k)
theorem codeTo_lt (bs : List Int) (p k : Nat) : codeTo bs p k < 2 ^ k := by
  induction k with
  | zero => simp [codeTo]
  | succ k ih =>
    have := bitAt_le bs (p + k)
    simp only [codeTo, Nat.pow_succ]
    omega
def hitB (xs bs : List Int) (p k : Nat) : Bool := decide (0 ≤ (codeTo bs p k : Int) - firstAt (cntOf xs) k) && decide ((codeTo bs p k : Int) - firstAt (cntOf xs) k < rd (cntOf xs) k)
def symAt (xs bs : List Int) (p k : Nat) : Int := rd (symsTo xs 15) ((symsTo xs (k - 1)).length + ((codeTo bs p k : Int) - firstAt (cntOf xs) k).toNat)
theorem ofLen_len (xs : List Int) (k s : Nat) (hs : s ≤ xs.length) : (ofLen xs k s).length = before xs k s := by
  induction s with
  | zero => simp [ofLen, before]
  | succ s ih =>
    have h1 := ih (by omega)
    by_cases e : rd xs s = k
    · rw [ofLen_hit xs k s e, before_hit xs k s (by omega) e, List.length_append, h1]
      rfl
    · rw [ofLen_miss xs k s e, before_miss xs k s (by omega) e, h1]
theorem symsTo_mono (xs : List Int) (k d : Nat) : (symsTo xs k).length ≤ (symsTo xs (k + d)).length := by
  induction d with
  | zero => exact Nat.le_refl _
  | succ d ih =>
    have : (symsTo xs (k + d + 1)).length = (symsTo xs (k + d)).length + (ofLen xs (k + d + 1) xs.length).length := by simp [symsTo]
    show _ ≤ (symsTo xs (k + d + 1)).length
    omega
theorem symsTo_room (xs : List Int) (k : Nat) (hk : 0 < k) (hk2 : k ≤ 15) : (symsTo xs (k - 1)).length + rd (cntOf xs) k ≤ ((symsTo xs 15).length : Nat) := by
  obtain ⟨j, rfl⟩ : ∃ j, k = j + 1 := ⟨k - 1, by omega⟩
  have h1 := symsTo_mono xs (j + 1) (15 - (j + 1))
  rw [show j + 1 + (15 - (j + 1)) = 15 from by omega] at h1
  have h2 : (symsTo xs (j + 1)).length = (symsTo xs j).length + (ofLen xs (j + 1) xs.length).length := by simp [symsTo]
  rw [ofLen_len xs (j + 1) xs.length (Nat.le_refl _)] at h2
  rw [rd_cntOf_pos xs (j + 1) (by omega) (by omega)]
  simp only [Nat.add_sub_cancel]
  omega
theorem grown_trans {w w1 w2 : World} {row : Option Nat} (h : w.grownBy w1 row) (k : w1.grownBy w2 row) : w.grownBy w2 row :=
  ⟨k.os.trans h.os, k.tape.trans h.tape, k.output.trans h.output, Nat.le_trans h.size k.size, fun i hi hne => (k.block i (Nat.lt_of_lt_of_le hi h.size) hne).trans (h.block i hi hne)⟩
theorem numAt_one (bs : List Int) (p : Nat) : numAt bs p 1 = bitAt bs p := by simp [numAt]

set_option maxHeartbeats 2000000 in
set_option maxRecDepth 100000 in
theorem Next_calls (h r base : Nat) (A : Option Addr) (len cap p : Nat) (xs bs : List Int) (w : World) (hC : Coder w base h xs) (hxs : xs.length ≤ 1000000) (hR : RdrAt w r A len cap p) (hB : Rd w .u8 A len bs) (hb : ∀ j, j < len → 0 ≤ rd bs j ∧ rd bs j ≤ 255) (hne : ∀ b o, A = some ⟨b, o, none⟩ → b ≠ r) (hlen : len ≤ 1000000) (hp : p ≤ 8 * len) (hhr : h ≠ r) :
    Calls Try.prog 28 #[.pointer (some ⟨h, 0, none⟩), .pointer (some ⟨r, 0, none⟩)] w fun e w' =>
      ((∃ k, 0 < k ∧ k ≤ 15 ∧ p + k ≤ 8 * len ∧ (∀ i, 0 < i → i < k → hitB xs bs p i = false) ∧ hitB xs bs p k = true ∧ e = .returned (.tuple #[.int .i64 (symAt xs bs p k), .bool true]) ∧ RdrAt w' r A len cap (p + k)) ∨
       (∃ k, k ≤ 15 ∧ p + k ≤ 8 * len ∧ (∀ i, 0 < i → i ≤ k → hitB xs bs p i = false) ∧ (k = 15 ∨ p + k = 8 * len) ∧ e = .returned (.tuple #[.int .i64 0, .bool false]) ∧ RdrAt w' r A len cap (p + k))) ∧ w.grownBy w' (some r) := by
  have HC := Lib.hid hC
  have HR := Lib.hid hR
  have HB := Lib.hid hB
  have Hb := Lib.hid hb
  clear hC hR hB hb
  go_enter Try.func28, Try.ntmps28
  go_wp2
  go_loopw [6, 7] (fun x i wr => ∃ k : Nat, k ≤ 15 ∧ i = .int .i64 (1 + k) ∧ x = .int .i64 (codeTo bs p k : Nat) ∧ p + k ≤ 8 * len ∧ RdrAt wr r A len cap (p + k) ∧ Hid (∀ i, 0 < i → i ≤ k → hitB xs bs p i = false) ∧ Hid (w.grownBy wr (some r))) (fun _ i _ => 16 - (intOf i).toNat)
  case atStart => exact ⟨0, by omega, rfl, rfl, by omega, HR.out, (fun i h1 h2 => by omega), grown_refl w _⟩
  case round =>
    obtain ⟨k, hk, rfl, rfl, hpk, hR, Hno, Hg⟩ := hrel
    have HRk := Lib.hid hR
    clear hR
    by_cases hlt : k < 15
    · by_cases hmore : p + k < 8 * len
      · go_wp2_with fail
        refine (Bits_calls r A len cap (p + k) 1 bs _ HRk.out (HB.out.grown Hg.out hne) Hb.out hne (by omega) hpk (by omega) (by omega)).mono ?_
        rintro e w2 ⟨rfl, hR2, hg2⟩
        rw [numAt_one]
        obtain ⟨m, v, hm, hbase, hCA, hmm, hown⟩ := HC.out
        have hg02 := grown_trans Hg.out hg2
        have hC2 : CoderAt w2 h m v := (hg02.block h hCA.lt (by simpa using hhr)).trans hCA
        obtain ⟨q1, q2, q3⟩ := hmm (1 + k) (by omega) (by omega)
        have cf := hC2.cell (j := 1 + k) (by omega)
        have cc := hC2.cell (j := 16 + (1 + k)) (by omega)
        have ca := hC2.cell (j := 32 + (1 + k)) (by omega)
        rw [q1] at cf
        rw [q2] at cc
        rw [q3] at ca
        have cl := hC2.last hm
        have hbt := bitAt_le bs (p + k)
        have hcode : codeTo bs p (1 + k) = 2 * codeTo bs p k + bitAt bs (p + k) := by rw [Nat.add_comm]; rfl
        have hclt := codeTo_lt bs p k
        have hpow : (2 : Nat) ^ k ≤ 2 ^ 15 := Nat.pow_le_pow_right (by omega) (by omega)
        have hp15 : (2 : Nat) ^ 15 = 32768 := by decide
        have hcl : codeTo bs p k ≤ 32768 := by omega
        have hfr := firstAt_le (cntOf xs) xs.length (by omega) (rd_cntOf xs) (1 + k) (by omega)
        have hroom := symsTo_room xs (1 + k) (by omega) (by omega)
        have s2 : ((1 : Int) + k).toNat = 1 + k := by omega
        have s3 : (0 : Int) ≤ 1 + k := by omega
        have s4 : (1 : Int) + k < 16 := by omega
        have e1 : (2 : Int) * (codeTo bs p k : Nat) + (bitAt bs (p + k) : Nat) = (codeTo bs p (1 + k) : Nat) := by rw [hcode]; omega
        have HC2 := Lib.hid hC2
        have HR2 := Lib.hid hR2
        have Hg2 := Lib.hid hg02
        have Hown := Lib.hid hown
        have Hcode := Lib.hid hcode
        clear hC2 hR2 hg02 hg2 hown hmm hCA q1 q2 q3 hpow hclt hp15 hcode
        have E1 := Lib.hid e1
        clear e1
        rcases Int.lt_or_le (2 * ((codeTo bs p k : Nat) : Int) + (bitAt bs (p + k) : Nat)) (firstAt (cntOf xs) (1 + k)) with t1 | t1
        · have hmiss : Hid (hitB xs bs p (1 + k) = false) := by show hitB xs bs p (1 + k) = false; unfold hitB; rw [← E1.out]; simp; omega
          have t3 : 2 * ((codeTo bs p k : Nat) : Int) + (bitAt bs (p + k) : Nat) - firstAt (cntOf xs) (1 + k) < 0 := by omega
          go_wp2
          go_roundw
          case rel =>
            refine ⟨k + 1, by omega, by go_num, ?_, by omega, by rw [← Nat.add_assoc]; exact HR2.out, ?_, Hg2.out⟩
            · rw [Nat.add_comm k 1, ← E1.out]
            · intro i h1 h2
              rcases Nat.lt_or_ge k i with h | h
              · rw [show i = 1 + k from by omega]; exact hmiss.out
              · exact Hno.out i h1 h
          case measure => simp [intOf]; omega
        · have t3 : (0 : Int) ≤ 2 * ((codeTo bs p k : Nat) : Int) + (bitAt bs (p + k) : Nat) - firstAt (cntOf xs) (1 + k) := by omega
          rcases Int.lt_or_le (2 * ((codeTo bs p k : Nat) : Int) + (bitAt bs (p + k) : Nat) - firstAt (cntOf xs) (1 + k)) (rd (cntOf xs) (1 + k)) with t2 | t2
          · have hhit : Hid (hitB xs bs p (1 + k) = true) := by show hitB xs bs p (1 + k) = true; unfold hitB; rw [← E1.out]; simp only [t3, t2, decide_true]; rfl
            have hsl := symsTo_le xs 15
            obtain ⟨J, hJ⟩ : ∃ J : Nat, (J : Int) = ((symsTo xs (1 + k - 1)).length : Nat) + (2 * ((codeTo bs p k : Nat) : Int) + (bitAt bs (p + k) : Nat) - firstAt (cntOf xs) (1 + k)) := ⟨_, Int.toNat_of_nonneg (by omega)⟩
            have hJlt : J < (symsTo xs 15).length := by omega
            have hsym : symAt xs bs p (1 + k) = rd (symsTo xs 15) J := by
              unfold symAt
              rw [← E1.out, show (symsTo xs (1 + k - 1)).length + (2 * ((codeTo bs p k : Nat) : Int) + (bitAt bs (p + k) : Nat) - firstAt (cntOf xs) (1 + k)).toNat = J from by omega]
            have s5 : IntKind.i64.wrap (((symsTo xs (1 + k - 1)).length : Nat) + (2 * ((codeTo bs p k : Nat) : Int) + (bitAt bs (p + k) : Nat) - firstAt (cntOf xs) (1 + k))) = (J : Int) := by rw [← hJ]; exact IntWalk.i64_in _ (by omega)
            have hown2 := Hown.out.kept Hg2.out (.inr (own_ne HR.out (by decide) Hown.out))
            obtain ⟨g, gc, rfl, _, _, hgc, hgcell, _⟩ := own_form hown2 (by omega)
            have hz := hgcell J _ (ints_get hJlt)
            have Hsym := Lib.hid hsym
            clear hown2 hgcell hsym hJ Hown HC hroom
            generalize hSL : (symsTo xs 15).length = SL at *
            generalize hSA : ((symsTo xs (1 + k - 1)).length : Int) = SA at *
            go_wp2
            go_region
            go_wp2
            refine bodyPost_ret (v := .tuple #[.int .i64 (rd (symsTo xs 15) J), .bool true]) (by simp [results, Try.results28, go_sem]) rfl ⟨.inl ⟨1 + k, by omega, by omega, by omega, ?_, hhit.out, by rw [Hsym.out], by rw [← Nat.add_assoc, Nat.add_right_comm]; exact HR2.out⟩, ?_⟩
            · intro i h1 h2
              exact Hno.out i h1 (by omega)
            · exact grown_below Hg2.out (Below.refl _ _).drew
          · have hmiss : Hid (hitB xs bs p (1 + k) = false) := by show hitB xs bs p (1 + k) = false; unfold hitB; rw [← E1.out, decide_eq_false (p := _ < _) (by omega), Bool.and_false]
            go_wp2
            go_roundw
            case rel =>
              refine ⟨k + 1, by omega, by go_num, ?_, by omega, by rw [← Nat.add_assoc]; exact HR2.out, ?_, Hg2.out⟩
              · rw [Nat.add_comm k 1, ← E1.out]
              · intro i h1 h2
                rcases Nat.lt_or_ge k i with h | h
                · rw [show i = 1 + k from by omega]; exact hmiss.out
                · exact Hno.out i h1 h
            case measure => simp [intOf]; omega
      · go_wp2_with fail
        refine (BitsShort_calls r A len cap (p + k) 1 _ HRk.out (by omega) hpk (by omega) (by omega)).mono ?_
        rintro e w2 ⟨rfl, hb2⟩
        have HR2 := Lib.hid (HRk.out.keep hb2)
        have Hg2 := Lib.hid (grown_below Hg.out hb2)
        clear hb2
        go_wp2
        refine bodyPost_ret (v := .tuple #[.int .i64 0, .bool false]) (by simp [results, Try.results28, go_sem]) rfl ⟨.inr ⟨k, hk, hpk, Hno.out, .inr (by omega), rfl, HR2.out⟩, Hg2.out⟩
    · have hk15 : k = 15 := by omega
      go_wp2
      refine bodyPost_ret (v := .tuple #[.int .i64 0, .bool false]) (by simp [results, Try.results28, go_sem]) rfl ⟨.inr ⟨k, hk, hpk, Hno.out, .inl hk15, rfl, HRk.out⟩, Hg.out⟩
end Go.Proofs.Ytempgkglhgelkaa
