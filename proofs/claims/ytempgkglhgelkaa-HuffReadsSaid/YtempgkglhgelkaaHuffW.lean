/-
  The walks of package huff: counts, Right.
-/
import Derived.Test.YtempgkglhgelkaaB
import Derived.Laws.Tables
namespace Go.Proofs.Ytempgkglhgelkaa
open Go.RowKit

/-- How many of the first k lengths are j. -/
def cntTo (xs : List Int) (k : Nat) : List Int := (List.range 16).map fun (j : Nat) => (((xs.take k).filter fun x => x == (j : Int)).length : Int)
def lensOk (xs : List Int) : Bool := xs.all fun x => decide (0 ≤ x ∧ x ≤ 15)
def cntOf (xs : List Int) : List Int := (cntTo xs xs.length).set 0 0

theorem cntTo_length (xs : List Int) (k : Nat) : (cntTo xs k).length = 16 := by simp [cntTo]
theorem rd_cntTo (xs : List Int) (k j : Nat) (h : j < 16) : rd (cntTo xs k) j = (((xs.take k).filter fun x => x == (j : Int)).length : Int) := by
  rw [rd_getElem (by rw [cntTo_length]; exact h)]
  simp [cntTo]
theorem rd_cntTo_le (xs : List Int) (k j : Nat) (h : j < 16) : 0 ≤ rd (cntTo xs k) j ∧ rd (cntTo xs k) j ≤ k := by
  rw [rd_cntTo xs k j h]
  have h1 := List.length_filter_le (fun x => x == (j : Int)) (xs.take k)
  have h2 := List.length_take_le k xs
  omega
theorem ext_rd {a b : List Int} (hl : a.length = b.length) (h : ∀ j, j < a.length → rd a j = rd b j) : a = b := by
  apply List.ext_getElem hl
  intro i h1 h2
  rw [← rd_getElem h1, ← rd_getElem h2]
  exact h i h1
theorem cntTo_succ (xs : List Int) (k m : Nat) (hk : k < xs.length) (hm : rd xs k = (m : Int)) (h16 : m < 16) : cntTo xs (k + 1) = (cntTo xs k).set m (rd (cntTo xs k) m + 1) := by
  apply ext_rd (by simp [cntTo_length])
  intro j hj
  rw [cntTo_length] at hj
  rw [rd_set (by rw [cntTo_length]; exact h16), rd_cntTo _ _ _ hj, rd_cntTo _ _ _ h16, rd_cntTo _ _ _ hj, List.take_succ_eq_append_getElem hk, ← rd_getElem hk, hm, List.filter_append]
  by_cases e : m = j
  · subst e
    rw [if_pos rfl]
    simp
  · rw [if_neg e]
    have : ((m : Int) == (j : Int)) = false := by simp; omega
    simp [this]

set_option maxHeartbeats 1000000 in
set_option maxRecDepth 200000 in
theorem counts_calls (A : Option Addr) (n cap : Nat) (xs : List Int) (w : World) (hR : Rd w .i64 A n xs) (hn : n ≤ 140737488351232) :
    Calls Try.prog 34 #[.slice A n cap] w fun e w' => ∃ l : List Int, l.length = 16 ∧ e = .returned (.tuple #[.agg (ints .i64 l).toArray, .bool (lensOk xs)]) ∧ (lensOk xs = true → l = cntOf xs) ∧ Below w.heap.size w w' := by
  have HR := Lib.hid hR
  have hlen := Lib.hid hR.1
  clear hR
  go_enter Try.func34, Try.ntmps34
  go_wp2
  go_loopw [6, 9] (fun x i wr => ∃ k : Nat, k ≤ n ∧ i = .int .i64 k ∧ Blk wr w.heap.size 59 .i64 (List.replicate 16 0) ∧ Blk wr (w.heap.size + 1) 59 .i64 (cntTo xs k) ∧ Hid (lensOk (xs.take k) = true) ∧ Below w.heap.size w wr) (fun _ i _ => n - (intOf i).toNat)
  case atStart =>
    refine ⟨0, by omega, rfl, ?_, ?_, rfl, below_new (below_new (Below.refl _ _) (Nat.le_refl _) _) (Nat.le_refl _) _⟩
    · exact heap_alloc2_old _ _ _
    · exact heap_alloc2_new _ _ _
  case round =>
    obtain ⟨k, hk, rfl, hB0, hB1, Hok, hbel⟩ := hrel
    have HB0 := Lib.hid hB0
    have HB1 := Lib.hid hB1
    have Hbel := Lib.hid hbel
    clear hB0 hB1 hbel
    by_cases hlt : k < n
    · obtain ⟨b, o, rfl, hc⟩ := HR.out.2 (by omega)
      have hck := kept_cell Hbel.out (hc k hlt)
      clear hc
      by_cases hx : 0 ≤ rd xs k ∧ rd xs k ≤ 15
      · obtain ⟨hx0, hx1⟩ := hx
        obtain ⟨m, hm⟩ : ∃ m : Nat, rd xs k = m := ⟨(rd xs k).toNat, by omega⟩
        rw [hm] at hck hx0 hx1
        have Hm := Lib.hid hm
        clear hm
        have hcm := HB1.out.cell (j := m) (by rw [cntTo_length]; omega)
        have hfm := HB1.out.frozen m
        have hrg := rd_cntTo_le xs k m (by omega)
        go_wp2
        go_roundw
        case rel =>
          refine ⟨k + 1, by omega, by go_num, HB0.out.other _ _ (by simp), ?_, ?_, Hbel.out.setCell (by simp) _⟩
          · rw [cntTo_succ xs k m (by rw [hlen.out]; omega) Hm.out (by omega)]
            exact HB1.out.set _ _
          · show lensOk _ = true
            rw [List.take_succ_eq_append_getElem (by rw [hlen.out]; omega)]
            have h1 : lensOk (xs.take k) = true := Hok.out
            unfold lensOk at *
            rw [List.all_append, h1, ← rd_getElem (by rw [hlen.out]; omega), Hm.out]
            simp
            omega
        case measure => simp [intOf]; omega
      · have hno : lensOk xs = false := by
          unfold lensOk
          rw [List.all_eq_false]
          exact ⟨xs[k]'(by rw [hlen.out]; omega), List.getElem_mem _, by rw [← rd_getElem (by rw [hlen.out]; omega)]; simpa using hx⟩
        have hways : rd xs k < 0 ∨ (0 ≤ rd xs k ∧ 15 < rd xs k) := by omega
        clear hx
        have hs : (ints .i64 (cntTo xs k)).toArray.size = 16 := by simp [ints_length, cntTo_length]
        have Hno := Lib.hid hno
        have Hs := Lib.hid hs
        clear hno hs
        rcases hways with h1 | ⟨h1, h2⟩
        all_goals
          go_wp2_with (first
            | (refine wpList_load_row rfl 59 _ rfl (w.heap.size + 1) rfl 59 _ (0, 0) _ HB1.out Try.underlying59 rfl (by rw [Hs.out]; kernel_rfl) ?_)
            | (refine wpList_store_row rfl 59 _ _ rfl w.heap.size _ rfl rfl 59 _ HB0.out (by rw [Hs.out]; kernel_rfl) (by rw [Hs.out]; simp [ints]) (ints_one _ _) ?_))
          have hrow := setRow_heap wr w.heap.size _ (ints .i64 (cntTo xs k)).toArray 59 _ HB0.out
          have hl := run_loadVar_row (P := Try.prog) _ w.heap.size 59 59 _ _ _ hrow Try.underlying59 rfl (by rw [Hs.out]; kernel_rfl)
          refine bodyPost_ret (v := .tuple #[.agg (ints .i64 (cntTo xs k)).toArray, .bool false]) ?_ rfl ⟨cntTo xs k, cntTo_length _ _, by rw [Hno.out], (fun h => absurd h (by rw [Hno.out]; decide)), ?_⟩
          · simp [results, Try.results34, asAddr, hl]
          · exact Hbel.out.trans ⟨rfl, rfl, rfl, by simp, fun i hi => setRow_other wr w.heap.size i _ (by omega)⟩
    · obtain rfl : k = n := by omega
      have hs : (ints .i64 ((cntTo xs k).set 0 0)).toArray.size = 16 := by simp [ints_length, cntTo_length]
      have Hs := Lib.hid hs
      have hok : lensOk xs = true := by
        have h1 : lensOk (xs.take k) = true := Hok.out
        rwa [List.take_of_length_le (by rw [hlen.out]; exact Nat.le_refl _)] at h1
      have Hk := Lib.hid hok
      clear hs hok
      have hc0 := HB1.out.cell (j := 0) (by rw [cntTo_length]; omega)
      have hf0 := HB1.out.frozen 0
      have HB1' := Lib.hid (HB1.out.set 0 0)
      have HB0' := Lib.hid (HB0.out.other ⟨w.heap.size + 1, 0, none⟩ (.int .i64 0) (by simp))
      go_wp2_with (first
        | (refine wpList_load_row rfl 59 _ rfl (w.heap.size + 1) rfl 59 _ (0, 0) _ HB1'.out Try.underlying59 rfl (by rw [Hs.out]; kernel_rfl) ?_)
        | (refine wpList_store_row rfl 59 _ _ rfl w.heap.size _ rfl rfl 59 _ HB0'.out (by rw [Hs.out]; kernel_rfl) (by rw [Hs.out]; simp [ints]) (ints_one _ _) ?_))
      have hrow := setRow_heap _ w.heap.size _ (ints .i64 ((cntTo xs k).set 0 0)).toArray 59 _ HB0'.out
      have hl := run_loadVar_row (P := Try.prog) _ w.heap.size 59 59 _ _ _ hrow Try.underlying59 rfl (by rw [Hs.out]; kernel_rfl)
      refine bodyPost_ret (v := .tuple #[.agg (ints .i64 ((cntTo xs k).set 0 0)).toArray, .bool true]) ?_ rfl ⟨(cntTo xs k).set 0 0, by rw [List.length_set, cntTo_length], by rw [Hk.out], fun _ => by unfold cntOf; rw [hlen.out], ?_⟩
      · simp [results, Try.results34, asAddr, hl]
      · exact (Hbel.out.setCell (by simp) _).trans ⟨rfl, rfl, rfl, by simp, fun i hi => setRow_other _ w.heap.size i _ (by omega)⟩
/-- What is left of 1 behind i lengths, doubled each time; how many there are. -/
def leftAt (c : List Int) : Nat → Int
  | 0 => 1
  | i + 1 => 2 * leftAt c i - rd c (i + 1)
def sumAt (c : List Int) : Nat → Int
  | 0 => 0
  | i + 1 => sumAt c i + rd c (i + 1)
def leftOk (c : List Int) (i : Nat) : Bool := (List.range i).all fun j => decide (0 ≤ leftAt c (j + 1))
theorem leftOk_succ (c : List Int) (i : Nat) : leftOk c (i + 1) = (leftOk c i && decide (0 ≤ leftAt c (i + 1))) := by
  simp [leftOk, List.range_succ]
def rightOf (c : List Int) : Bool := leftOk c 15 && (leftAt c 15 == 0 || (sumAt c 15 == 1 && rd c 1 == 1))
def rightB (xs : List Int) : Bool := lensOk xs && rightOf (cntOf xs)

theorem leftOk_no (c : List Int) (i k : Nat) (hk : k < i) (h : leftAt c (k + 1) < 0) : leftOk c i = false := by
  unfold leftOk
  rw [List.all_eq_false]
  exact ⟨k, List.mem_range.2 hk, by simp; omega⟩
theorem rd_cntOf (xs : List Int) (j : Nat) (h : j < 16) : 0 ≤ rd (cntOf xs) j ∧ rd (cntOf xs) j ≤ xs.length := by
  unfold cntOf
  rw [rd_set (by rw [cntTo_length]; omega)]
  split
  · omega
  · exact rd_cntTo_le xs xs.length j h
theorem leftAt_le (c : List Int) (hc : ∀ j, j < 16 → 0 ≤ rd c j) (i : Nat) (hi : i < 16) : leftAt c i ≤ 2 ^ i := by
  induction i with
  | zero => simp [leftAt]
  | succ i ih =>
    have h1 := ih (by omega)
    have h2 := hc (i + 1) hi
    simp only [leftAt, Int.pow_succ]
    omega
theorem sumAt_le (c : List Int) (n : Int) (hc : ∀ j, j < 16 → 0 ≤ rd c j ∧ rd c j ≤ n) (i : Nat) (hi : i < 16) : 0 ≤ sumAt c i ∧ sumAt c i ≤ i * n := by
  induction i with
  | zero => simp [sumAt]
  | succ i ih =>
    have h1 := ih (by omega)
    have h2 := hc (i + 1) hi
    simp only [sumAt]
    have e : ((i + 1 : Nat) : Int) * n = i * n + n := by rw [Int.natCast_add, Int.add_mul]; simp
    rw [e]
    omega

set_option maxHeartbeats 1000000 in
set_option maxRecDepth 200000 in
theorem Right_calls (A : Option Addr) (n cap : Nat) (xs : List Int) (w : World) (hR : Rd w .i64 A n xs) (hn : n ≤ 140737488351232) :
    Calls Try.prog 21 #[.slice A n cap] w fun e w' => e = .returned (.bool (rightB xs)) ∧ Below w.heap.size w w' := by
  have HR := Lib.hid hR
  have hlen := Lib.hid hR.1
  clear hR
  go_enter Try.func21, Try.ntmps21
  go_wp2_with fail
  refine (counts_calls A n cap xs _ HR.out hn).mono ?_
  rintro e w1 ⟨l, hl, rfl, hcnt, hb1⟩
  have Hl := Lib.hid hl
  cases hok : lensOk xs
  · have hrb : rightB xs = false := by unfold rightB; rw [hok]; rfl
    have Hrb := Lib.hid hrb
    have Hb1 := Lib.hid hb1
    clear hl hcnt hb1 hok hrb
    go_wp2_with (first
      | (refine wpList_store_row rfl 59 _ _ rfl w1.heap.size _ rfl rfl 59 _ (heap_alloc_new _ _) (by rw [ints_size, Hl.out]; kernel_rfl) (by rw [ints_size, Hl.out]; rfl) (ints_one _ _) ?_))
    go_ret
    rw [Hrb.out]
    exact ⟨rfl, (below_new Hb1.out (Nat.le_refl _) _).trans ⟨rfl, rfl, rfl, by simp, fun i hi => setRow_other _ w1.heap.size i _ (by have := Hb1.out.size; omega)⟩⟩
  · obtain rfl := hcnt hok
    have hrb : rightB xs = rightOf (cntOf xs) := by unfold rightB; rw [hok]; rfl
    have hrng := fun j hj => rd_cntOf xs j hj
    rw [hlen.out] at hrng
    generalize cntOf xs = c at *
    have Hrb := Lib.hid hrb
    have Hb1 := Lib.hid hb1
    have Hrng := Lib.hid hrng
    clear hl hcnt hb1 hok hrb hrng
    go_wp2_with (first
      | (refine wpList_store_row rfl 59 _ _ rfl w1.heap.size _ rfl rfl 59 _ (heap_alloc_new _ _) (by rw [ints_size, Hl.out]; kernel_rfl) (by rw [ints_size, Hl.out]; rfl) (ints_one _ _) ?_))
    have HB : Hid (Blk _ w1.heap.size 59 .i64 c) := setRow_heap _ w1.heap.size _ (ints .i64 c).toArray 59 _ (heap_alloc_new w1 (Obj.cells #[.int .i64 0, .int .i64 0, .int .i64 0, .int .i64 0, .int .i64 0, .int .i64 0, .int .i64 0, .int .i64 0, .int .i64 0, .int .i64 0, .int .i64 0, .int .i64 0, .int .i64 0, .int .i64 0, .int .i64 0, .int .i64 0] 59))
    have HW : Hid (Below w.heap.size w (World.setRow (w1.alloc (Obj.cells #[.int .i64 0, .int .i64 0, .int .i64 0, .int .i64 0, .int .i64 0, .int .i64 0, .int .i64 0, .int .i64 0, .int .i64 0, .int .i64 0, .int .i64 0, .int .i64 0, .int .i64 0, .int .i64 0, .int .i64 0, .int .i64 0] 59)) w1.heap.size (ints .i64 c).toArray)) := (below_new Hb1.out (Nat.le_refl _) _).trans ⟨rfl, rfl, rfl, by simp, fun i hi => setRow_other _ w1.heap.size i _ (by have := Hb1.out.size; omega)⟩
    generalize World.setRow (w1.alloc (Obj.cells #[.int .i64 0, .int .i64 0, .int .i64 0, .int .i64 0, .int .i64 0, .int .i64 0, .int .i64 0, .int .i64 0, .int .i64 0, .int .i64 0, .int .i64 0, .int .i64 0, .int .i64 0, .int .i64 0, .int .i64 0, .int .i64 0] 59)) w1.heap.size (ints .i64 c).toArray = W at *
    go_loop [5, 6, 7] (fun l a i => ∃ k : Nat, k ≤ 15 ∧ i = .int .i64 (1 + k) ∧ l = .int .i64 (leftAt c k) ∧ a = .int .i64 (sumAt c k) ∧ Hid (leftOk c k = true) ∧ 0 ≤ leftAt c k) (fun _ _ i => 16 - (intOf i).toNat)
    case atStart => exact ⟨0, by omega, rfl, rfl, rfl, rfl, by show (0 : Int) ≤ 1; omega⟩
    case round =>
      obtain ⟨k, hk, rfl, rfl, rfl, Hok, h0⟩ := hrel
      have hle := leftAt_le c (fun j hj => (Hrng.out j hj).1) k (by omega)
      have hle2 : (2 : Int) ^ k ≤ 2 ^ 15 := by
        have : (2 : Nat) ^ k ≤ 2 ^ 15 := Nat.pow_le_pow_right (by omega) hk
        exact_mod_cast this
      have hle3 : leftAt c k ≤ 32768 := Int.le_trans hle (Int.le_trans hle2 (by decide))
      have hsum := sumAt_le c n Hrng.out k (by omega)
      have hsum2 : sumAt c k ≤ 15 * n := by
        have : (k : Int) * n ≤ 15 * n := Int.mul_le_mul_of_nonneg_right (by omega) (by omega)
        omega
      obtain ⟨hs0, _⟩ := hsum
      clear hle hle2
      by_cases hlt : k < 15
      · have hcell := HB.out.cell (j := 1 + k) (by rw [Hl.out]; omega)
        have hr := Hrng.out (1 + k) (by omega)
        have el : leftAt c (k + 1) = 2 * leftAt c k - rd c (1 + k) := by rw [Nat.add_comm 1 k]; rfl
        have es : sumAt c (k + 1) = sumAt c k + rd c (1 + k) := by rw [Nat.add_comm 1 k]; rfl
        have El := Lib.hid el
        have Es := Lib.hid es
        clear el es
        go_wp2
        · go_ret
          have h1 : 2 * leftAt c k - rd c (1 + k) < 0 := by assumption
          rw [← El.out] at h1
          refine ⟨?_, HW.out⟩
          rw [Hrb.out, show rightOf c = false from by unfold rightOf; rw [leftOk_no c 15 k hlt h1]; rfl]
          rfl
        · go_round
          case rel =>
            have h1 : 0 ≤ 2 * leftAt c k - rd c (1 + k) := by assumption
            refine ⟨k + 1, by omega, by go_num, by rw [El.out], by rw [Es.out], ?_, by rw [El.out]; exact h1⟩
            show leftOk c (k + 1) = true
            have h2 : leftOk c k = true := Hok.out
            rw [leftOk_succ, h2, El.out]
            simpa using h1
          case measure => simp [intOf]; omega
      · obtain rfl : k = 15 := by omega
        have hcell := HB.out.cell (j := 1) (by rw [Hl.out]; omega)
        have hfin : rightB xs = (leftAt c 15 == 0 || (sumAt c 15 == 1 && rd c 1 == 1)) := by
          have h2 : leftOk c 15 = true := Hok.out
          rw [Hrb.out]; unfold rightOf; rw [h2]; rfl
        have Hfin := Lib.hid hfin
        clear hfin
        rcases Int.lt_trichotomy (leftAt c 15) 0 with g1 | g1 | g1
        · omega
        · have g2 : (leftAt c 15 == 0) = true := by simpa using g1
          have G := Lib.hid g1
          clear g1
          go_wp2
          go_ret
          refine ⟨?_, HW.out⟩
          rw [Hfin.out, G.out]
          rfl
        · have g2 : (leftAt c 15 == 0) = false := by simp; omega
          cases g3 : (sumAt c 15 == 1)
          all_goals
            go_wp2
            go_ret
            refine ⟨?_, HW.out⟩
            rw [Hfin.out, g2, g3]
            rfl
#print axioms Right_calls
end Go.Proofs.Ytempgkglhgelkaa
