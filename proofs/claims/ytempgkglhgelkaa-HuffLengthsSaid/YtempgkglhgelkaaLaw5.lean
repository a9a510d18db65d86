/-
  The walks of the laws' helpers of chapter 05: fits, same.
-/
import Derived.Test.YtempgkglhgelkaaAw5
import Derived.Deep.RegionWith
namespace Go.Proofs.Ytempgkglhgelkaa
open Go.RowKit

def wtsTo (xs : List Int) (k : Nat) : Bool := (List.range k).all fun j => decide (0 ≤ rd xs j ∧ rd xs j ≤ 1073741824)
theorem wtsTo_spec {xs : List Int} {k : Nat} : wtsTo xs k = true ↔ ∀ j, j < k → 0 ≤ rd xs j ∧ rd xs j ≤ 1073741824 := by
  unfold wtsTo
  rw [List.all_eq_true]
  constructor
  · intro h j hj
    have := h j (List.mem_range.2 hj)
    simpa using this
  · intro h j hj
    have := h j (List.mem_range.1 hj)
    simpa using this
def fitsB (most : Int) (xs : List Int) : Bool := decide (1 ≤ most ∧ most ≤ 15) && decide (xs.length ≤ 300) && wtsTo xs xs.length && decide (((posTo xs xs.length).length : Int) ≤ 2 ^ most.toNat)
structure Fits (most : Int) (xs : List Int) : Prop where
  m : 1 ≤ most ∧ most ≤ 15
  len : xs.length ≤ 300
  wts : ∀ x ∈ xs, 0 ≤ x
  top : ∀ x ∈ xs, x ≤ 1073741824
  sum : xs.sum ≤ 4611686018427387904
  few : (posTo xs xs.length).length ≤ 2 ^ most.toNat
theorem sum_le_len : ∀ {xs : List Int} {B : Int}, 0 ≤ B → (∀ x ∈ xs, x ≤ B) → xs.sum ≤ xs.length * B
  | [], B, hB, _ => by simp
  | x :: xs, B, hB, h => by
    have h1 := sum_le_len (xs := xs) hB (fun y hy => h y (List.mem_cons_of_mem _ hy))
    have h2 := h x (by simp)
    simp only [List.sum_cons, List.length_cons]
    rw [show ((xs.length + 1 : Nat) : Int) * B = xs.length * B + B from by rw [Int.natCast_add, Int.add_mul]; simp]
    omega
theorem Fits.of {most : Int} {xs : List Int} (h : fitsB most xs = true) : Fits most xs := by
  unfold fitsB at h
  simp only [Bool.and_eq_true, decide_eq_true_eq] at h
  obtain ⟨⟨⟨h1, h2⟩, h3⟩, h4⟩ := h
  have hall := wtsTo_spec.1 h3
  have hmem : ∀ x ∈ xs, 0 ≤ x ∧ x ≤ 1073741824 := fun x hx => by
    obtain ⟨i, hi, rfl⟩ := List.getElem_of_mem hx
    have := hall i hi
    rwa [rd_getElem hi] at this
  refine ⟨h1, h2, fun x hx => (hmem x hx).1, fun x hx => (hmem x hx).2, ?_, ?_⟩
  · have := sum_le_len (B := 1073741824) (by omega) (fun x hx => (hmem x hx).2)
    omega
  · have e : ((2 ^ most.toNat : Nat) : Int) = (2 : Int) ^ most.toNat := by simp
    omega
theorem fitsB_no {most : Int} {xs : List Int} (h : ¬ (1 ≤ most ∧ most ≤ 15) ∨ 300 < xs.length ∨ ∃ j, j < xs.length ∧ ¬ (0 ≤ rd xs j ∧ rd xs j ≤ 1073741824)) : fitsB most xs = false := by
  cases e : fitsB most xs
  · rfl
  · exfalso
    unfold fitsB at e
    simp only [Bool.and_eq_true, decide_eq_true_eq] at e
    obtain ⟨⟨⟨h1, h2⟩, h3⟩, _⟩ := e
    rcases h with h | h | ⟨j, hj, h⟩
    · exact h h1
    · omega
    · exact h (wtsTo_spec.1 h3 j hj)
theorem fitsB_yes {most : Int} {xs : List Int} (h1 : 1 ≤ most) (h2 : most ≤ 15) (h3 : xs.length ≤ 300) (h4 : ∀ j, j < xs.length → 0 ≤ rd xs j ∧ rd xs j ≤ 1073741824) : fitsB most xs = decide (((posTo xs xs.length).length : Int) ≤ 2 ^ most.toNat) := by
  unfold fitsB
  rw [decide_eq_true ⟨h1, h2⟩, decide_eq_true h3, wtsTo_spec.2 h4]
  rfl
set_option maxHeartbeats 2000000 in
theorem fits_calls (most : Int) (a : Option Addr) (len cap : Nat) (xs : List Int) (w : World) (hR : Rd w .i64 a len xs) (hlen : len ≤ 140737488351232) :
    Calls Try.prog 17 #[.int .i64 most, .slice a len cap] w fun e w' => e = .returned (.bool (fitsB most xs)) ∧ w = w' := by
  have HR := Lib.hid hR
  have hxl := Lib.hid hR.1
  obtain ⟨F, hF⟩ : ∃ F, fitsB most xs = F := ⟨_, rfl⟩
  rw [hF]
  have HF := Lib.hid hF
  clear hR hF
  by_cases h1 : 1 ≤ most
  · by_cases h2 : most ≤ 15
    · by_cases h3 : len ≤ 300
      · go_enter Try.func17, Try.ntmps17
        go_wp2
        go_loop [5, 6] (fun x i => ∃ k : Nat, k ≤ len ∧ i = .int .i64 k ∧ x = .int .i64 ((posTo xs k).length : Nat) ∧ Hid (∀ j, j < k → 0 ≤ rd xs j ∧ rd xs j ≤ 1073741824)) (fun _ i => len - (intOf i).toNat)
        case atStart => exact ⟨0, by omega, rfl, rfl, fun j hj => by omega⟩
        case round =>
          obtain ⟨k, hk, rfl, rfl, Hall⟩ := hrel
          have hpl := posTo_le xs k
          by_cases hlt : k < len
          · obtain ⟨b, o, rfl, hc⟩ := HR.out.2 (by omega)
            have z := hc k hlt
            clear hc
            rcases Int.lt_or_le (rd xs k) 0 with g | g
            · have hno := Lib.hid (fitsB_no (most := most) (.inr (.inr ⟨k, by rw [hxl.out]; exact hlt, by omega⟩)))
              rw [HF.out] at hno
              go_wp2
              go_ret
              rw [hno.out]
              exact ⟨rfl, rfl⟩
            · rcases Int.lt_or_le 1073741824 (rd xs k) with g2 | g2
              · have hno := Lib.hid (fitsB_no (most := most) (.inr (.inr ⟨k, by rw [hxl.out]; exact hlt, by omega⟩)))
                rw [HF.out] at hno
                go_wp2
                go_ret
                rw [hno.out]
                exact ⟨rfl, rfl⟩
              · have Hall2 : Hid (∀ j, j < k + 1 → 0 ≤ rd xs j ∧ rd xs j ≤ 1073741824) := fun j hj => by
                  by_cases e : j < k
                  · exact Hall.out j e
                  · rw [show j = k from by omega]; exact ⟨g, g2⟩
                rcases Int.lt_or_le 0 (rd xs k) with g3 | g3
                · have hp := Lib.hid (posTo_hit g3)
                  go_wp2
                  go_round
                  case rel => exact ⟨k + 1, by omega, by go_num, by rw [hp.out, List.length_append]; go_num, Hall2.out⟩
                  case measure => simp [intOf]; omega
                · have hp := Lib.hid (posTo_miss (ws := xs) (k := k) (by omega))
                  go_wp2
                  go_round
                  case rel => exact ⟨k + 1, by omega, by go_num, by rw [hp.out], Hall2.out⟩
                  case measure => simp [intOf]; omega
          · obtain rfl : k = len := by omega
            have hyes := fitsB_yes h1 h2 (by rw [hxl.out]; exact h3) (fun j hj => Hall.out j (by rw [← hxl.out]; exact hj))
            rw [HF.out, hxl.out] at hyes
            have Hyes := Lib.hid hyes
            clear hyes
            obtain ⟨mn, rfl⟩ : ∃ mn : Nat, most = mn := ⟨most.toNat, by omega⟩
            have hpow : (2 : Nat) ^ mn ≤ 2 ^ 15 := Nat.pow_le_pow_right (by omega) (by omega)
            have hp15 : (2 : Nat) ^ 15 = 32768 := by decide
            have hpc : ((2 ^ mn : Nat) : Int) = (2 : Int) ^ mn := by simp
            have hp0 : 0 < (2 : Nat) ^ mn := Nat.pow_pos (by omega)
            obtain ⟨pw, hpw⟩ : ∃ pw : Int, pw = (2 : Int) ^ mn := ⟨_, rfl⟩
            have b1 : 0 < pw := by omega
            have b2 : pw ≤ 32768 := by omega
            have Hpw := Lib.hid hpw
            have sp : IntKind.i64.wrap ((1 : Int) * 2 ^ mn) = pw := by rw [← hpw, Int.one_mul]; exact IntWalk.i64_in _ (by omega)
            have sp2 : IntKind.i64.wrap ((2 : Int) ^ mn) = pw := by rw [← hpw]; exact IntWalk.i64_in _ (by omega)
            clear hpow hp15 hpc hp0 hpw
            go_wp2
            go_ret
            refine ⟨?_, rfl⟩
            rw [Hyes.out, Int.toNat_natCast, ← Hpw.out]
            rfl
      · have hno := Lib.hid (fitsB_no (most := most) (.inr (.inl (by rw [hxl.out]; omega))))
        rw [HF.out] at hno
        go_enter Try.func17, Try.ntmps17
        go_wp2
        go_ret
        rw [hno.out]
        exact ⟨rfl, rfl⟩
    · have hno := Lib.hid (fitsB_no (most := most) (xs := xs) (.inl (by omega)))
      rw [HF.out] at hno
      go_enter Try.func17, Try.ntmps17
      go_wp2
      go_ret
      rw [hno.out]
      exact ⟨rfl, rfl⟩
  · have hno := Lib.hid (fitsB_no (most := most) (xs := xs) (.inl (by omega)))
    rw [HF.out] at hno
    go_enter Try.func17, Try.ntmps17
    go_wp2
    go_ret
    rw [hno.out]
    exact ⟨rfl, rfl⟩
set_option maxHeartbeats 1000000 in
theorem same5_calls (A B : Option Addr) (n c d : Nat) (xs : List Int) (w : World) (hA : Rd w .i64 A n xs) (hB : Rd w .i64 B n xs) (hn : n ≤ 1000000) :
    Calls Try.prog 18 #[.slice A n c, .slice B n d] w fun e w' => e = .returned (.bool true) ∧ Below w.heap.size w w' := by
  have HA := Lib.hid hA
  have HB := Lib.hid hB
  clear hA hB
  go_enter Try.func18, Try.ntmps18
  go_wp2
  go_loopw [5] (fun i wr => ∃ k : Nat, k ≤ n ∧ i = .int .i64 k ∧ Hid (Below w.heap.size w wr)) (fun i _ => n - (intOf i).toNat)
  case atStart => exact ⟨0, by omega, rfl, Below.refl _ _⟩
  case round =>
    obtain ⟨k, hk, rfl, Hk⟩ := hrel
    by_cases hlt : k < n
    · obtain ⟨b, o, rfl, hc⟩ := (HA.out.below Hk.out).2 (by omega)
      obtain ⟨b2, o2, rfl, hc2⟩ := (HB.out.below Hk.out).2 (by omega)
      have x := hc k hlt
      have y := hc2 k hlt
      clear hc hc2
      go_wp2
      go_region
      go_wp2
      go_roundw
      case rel => exact ⟨k + 1, by omega, by go_num, Hk.out.drew⟩
      case measure => simp [intOf]; omega
    · go_wp2
      go_ret
      exact ⟨rfl, Hk.out⟩
theorem IsRow.nil {k : IntKind} {w : World} {a : Option Addr} {len cap : Nat} {zs : List Int} (h : IsRow k w a len cap zs) : a = none → len = 0 ∧ cap = 0 := by
  intro e
  rcases h with ⟨_, h1, h2, _⟩ | ⟨x, rfl, _⟩
  · exact ⟨h1, h2⟩
  · cases e
end Go.Proofs.Ytempgkglhgelkaa
