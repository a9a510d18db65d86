/-
  Texts joined into one file: HuffW, Ref01, PackP, StoP, LzP, Toks.
-/
import Derived.Test.YtendohnkhbgfbaaDoorJBytZ1
import Derived.Laws.Tables
import Derived.ProofKit
import Derived.OpenShut
import Derived.ChangeSame
/-
  The walks of package huff: counts, Right.
-/
namespace Go.Proofs.YtendohnkhbgfbaaDoor
open Go.RowKit

/-- How many of the first k lengths are j. -/
def cntTo (xs : List Int) (k : Nat) : List Int := (List.range 16).map fun (j : Nat) => (((xs.take k).filter fun x => x == (j : Int)).length : Int)
def lensOk (xs : List Int) : Bool := xs.all fun x => decide (0 ≤ x ∧ x ≤ 15)
def cntOf (xs : List Int) : List Int := (cntTo xs xs.length).set 0 0

theorem cntTo_length (xs : List Int) (k : Nat) : (cntTo xs k).length = 16 := by simp [cntTo]
theorem rd_cntTo (xs : List Int) (k j : Nat) (h : j < 16) : rd (cntTo xs k) j = (((xs.take k).filter fun x => x == (j : Int)).length : Int) := by
  rw [rd_getElem (by rw [cntTo_length]; exact h)]
  simp [cntTo]
theorem rd_cntTo_le (xs : List Int) (k j : Nat) (h : j < 16) : 0 ≤ rd (cntTo xs k) j ∧ rd (cntTo xs k) j ≤ k := by
  rw [rd_cntTo xs k j h]
  have h1 := List.length_filter_le (fun x => x == (j : Int)) (xs.take k)
  have h2 := List.length_take_le k xs
  omega
theorem ext_rd {a b : List Int} (hl : a.length = b.length) (h : ∀ j, j < a.length → rd a j = rd b j) : a = b := by
  apply List.ext_getElem hl
  intro i h1 h2
  rw [← rd_getElem h1, ← rd_getElem h2]
  exact h i h1
theorem cntTo_succ (xs : List Int) (k m : Nat) (hk : k < xs.length) (hm : rd xs k = (m : Int)) (h16 : m < 16) : cntTo xs (k + 1) = (cntTo xs k).set m (rd (cntTo xs k) m + 1) := by
  apply ext_rd (by simp [cntTo_length])
  intro j hj
  rw [cntTo_length] at hj
  rw [rd_set (by rw [cntTo_length]; exact h16), rd_cntTo _ _ _ hj, rd_cntTo _ _ _ h16, rd_cntTo _ _ _ hj, List.take_succ_eq_append_getElem hk, ← rd_getElem hk, hm, List.filter_append]
  by_cases e : m = j
  · subst e
    rw [if_pos rfl]
    simp
  · rw [if_neg e]
    have : ((m : Int) == (j : Int)) = false := by simp; omega
    simp [this]

set_option maxHeartbeats 1000000 in
set_option maxRecDepth 200000 in
theorem counts_calls (A : Option Addr) (n cap : Nat) (xs : List Int) (w : World) (hR : Rd w .i64 A n xs) (hn : n ≤ 140737488351232) :
    Calls Tryd.prog 109 #[.slice A n cap] w fun e w' => ∃ l : List Int, l.length = 16 ∧ e = .returned (.tuple #[.agg (ints .i64 l).toArray, .bool (lensOk xs)]) ∧ (lensOk xs = true → l = cntOf xs) ∧ Below w.heap.size w w' := by
  have HR := Lib.hid hR
  have hlen := Lib.hid hR.1
  clear hR
  go_enter Tryd.func109, Tryd.ntmps109
  go_wp2
  go_loopw [6, 9] (fun x i wr => ∃ k : Nat, k ≤ n ∧ i = .int .i64 k ∧ Blk wr w.heap.size 175 .i64 (List.replicate 16 0) ∧ Blk wr (w.heap.size + 1) 175 .i64 (cntTo xs k) ∧ Hid (lensOk (xs.take k) = true) ∧ Below w.heap.size w wr) (fun _ i _ => n - (intOf i).toNat)
  case atStart =>
    refine ⟨0, by omega, rfl, ?_, ?_, rfl, below_new (below_new (Below.refl _ _) (Nat.le_refl _) _) (Nat.le_refl _) _⟩
    · exact heap_alloc2_old _ _ _
    · exact heap_alloc2_new _ _ _
  case round =>
    obtain ⟨k, hk, rfl, hB0, hB1, Hok, hbel⟩ := hrel
    have HB0 := Lib.hid hB0
    have HB1 := Lib.hid hB1
    have Hbel := Lib.hid hbel
    clear hB0 hB1 hbel
    by_cases hlt : k < n
    · obtain ⟨b, o, rfl, hc⟩ := HR.out.2 (by omega)
      have hck := kept_cell Hbel.out (hc k hlt)
      clear hc
      by_cases hx : 0 ≤ rd xs k ∧ rd xs k ≤ 15
      · obtain ⟨hx0, hx1⟩ := hx
        obtain ⟨m, hm⟩ : ∃ m : Nat, rd xs k = m := ⟨(rd xs k).toNat, by omega⟩
        rw [hm] at hck hx0 hx1
        have Hm := Lib.hid hm
        clear hm
        have hcm := HB1.out.cell (j := m) (by rw [cntTo_length]; omega)
        have hfm := HB1.out.frozen m
        have hrg := rd_cntTo_le xs k m (by omega)
        go_wp2
        go_roundw
        case rel =>
          refine ⟨k + 1, by omega, by go_num, HB0.out.other _ _ (by simp), ?_, ?_, Hbel.out.setCell (by simp) _⟩
          · rw [cntTo_succ xs k m (by rw [hlen.out]; omega) Hm.out (by omega)]
            exact HB1.out.set _ _
          · show lensOk _ = true
            rw [List.take_succ_eq_append_getElem (by rw [hlen.out]; omega)]
            have h1 : lensOk (xs.take k) = true := Hok.out
            unfold lensOk at *
            rw [List.all_append, h1, ← rd_getElem (by rw [hlen.out]; omega), Hm.out]
            simp
            omega
        case measure => simp [intOf]; omega
      · have hno : lensOk xs = false := by
          unfold lensOk
          rw [List.all_eq_false]
          exact ⟨xs[k]'(by rw [hlen.out]; omega), List.getElem_mem _, by rw [← rd_getElem (by rw [hlen.out]; omega)]; simpa using hx⟩
        have hways : rd xs k < 0 ∨ (0 ≤ rd xs k ∧ 15 < rd xs k) := by omega
        clear hx
        have hs : (ints .i64 (cntTo xs k)).toArray.size = 16 := by simp [ints_length, cntTo_length]
        have Hno := Lib.hid hno
        have Hs := Lib.hid hs
        clear hno hs
        rcases hways with h1 | ⟨h1, h2⟩
        all_goals
          go_wp2_with (first
            | (refine wpList_load_row rfl 175 _ rfl (w.heap.size + 1) rfl 175 _ (0, 0) _ HB1.out Tryd.underlying175 rfl (by rw [Hs.out]; kernel_rfl) ?_)
            | (refine wpList_store_row rfl 175 _ _ rfl w.heap.size _ rfl rfl 175 _ HB0.out (by rw [Hs.out]; kernel_rfl) (by rw [Hs.out]; simp [ints]) (ints_one _ _) ?_))
          have hrow := setRow_heap wr w.heap.size _ (ints .i64 (cntTo xs k)).toArray 175 _ HB0.out
          have hl := run_loadVar_row (P := Tryd.prog) _ w.heap.size 175 175 _ _ _ hrow Tryd.underlying175 rfl (by rw [Hs.out]; kernel_rfl)
          refine bodyPost_ret (v := .tuple #[.agg (ints .i64 (cntTo xs k)).toArray, .bool false]) ?_ rfl ⟨cntTo xs k, cntTo_length _ _, by rw [Hno.out], (fun h => absurd h (by rw [Hno.out]; decide)), ?_⟩
          · simp [results, Tryd.results109, asAddr, hl]
          · exact Hbel.out.trans ⟨rfl, rfl, rfl, by simp, fun i hi => setRow_other wr w.heap.size i _ (by omega)⟩
    · obtain rfl : k = n := by omega
      have hs : (ints .i64 ((cntTo xs k).set 0 0)).toArray.size = 16 := by simp [ints_length, cntTo_length]
      have Hs := Lib.hid hs
      have hok : lensOk xs = true := by
        have h1 : lensOk (xs.take k) = true := Hok.out
        rwa [List.take_of_length_le (by rw [hlen.out]; exact Nat.le_refl _)] at h1
      have Hk := Lib.hid hok
      clear hs hok
      have hc0 := HB1.out.cell (j := 0) (by rw [cntTo_length]; omega)
      have hf0 := HB1.out.frozen 0
      have HB1' := Lib.hid (HB1.out.set 0 0)
      have HB0' := Lib.hid (HB0.out.other ⟨w.heap.size + 1, 0, none⟩ (.int .i64 0) (by simp))
      go_wp2_with (first
        | (refine wpList_load_row rfl 175 _ rfl (w.heap.size + 1) rfl 175 _ (0, 0) _ HB1'.out Tryd.underlying175 rfl (by rw [Hs.out]; kernel_rfl) ?_)
        | (refine wpList_store_row rfl 175 _ _ rfl w.heap.size _ rfl rfl 175 _ HB0'.out (by rw [Hs.out]; kernel_rfl) (by rw [Hs.out]; simp [ints]) (ints_one _ _) ?_))
      have hrow := setRow_heap _ w.heap.size _ (ints .i64 ((cntTo xs k).set 0 0)).toArray 175 _ HB0'.out
      have hl := run_loadVar_row (P := Tryd.prog) _ w.heap.size 175 175 _ _ _ hrow Tryd.underlying175 rfl (by rw [Hs.out]; kernel_rfl)
      refine bodyPost_ret (v := .tuple #[.agg (ints .i64 ((cntTo xs k).set 0 0)).toArray, .bool true]) ?_ rfl ⟨(cntTo xs k).set 0 0, by rw [List.length_set, cntTo_length], by rw [Hk.out], fun _ => by unfold cntOf; rw [hlen.out], ?_⟩
      · simp [results, Tryd.results109, asAddr, hl]
      · exact (Hbel.out.setCell (by simp) _).trans ⟨rfl, rfl, rfl, by simp, fun i hi => setRow_other _ w.heap.size i _ (by omega)⟩
/-- What is left of 1 behind i lengths, doubled each time; how many there are. -/
def leftAt (c : List Int) : Nat → Int
  | 0 => 1
  | i + 1 => 2 * leftAt c i - rd c (i + 1)
def sumAt (c : List Int) : Nat → Int
  | 0 => 0
  | i + 1 => sumAt c i + rd c (i + 1)
def leftOk (c : List Int) (i : Nat) : Bool := (List.range i).all fun j => decide (0 ≤ leftAt c (j + 1))
theorem leftOk_succ (c : List Int) (i : Nat) : leftOk c (i + 1) = (leftOk c i && decide (0 ≤ leftAt c (i + 1))) := by
  simp [leftOk, List.range_succ]
def rightOf (c : List Int) : Bool := leftOk c 15 && (leftAt c 15 == 0 || (sumAt c 15 == 1 && rd c 1 == 1))
def rightB (xs : List Int) : Bool := lensOk xs && rightOf (cntOf xs)

theorem leftOk_no (c : List Int) (i k : Nat) (hk : k < i) (h : leftAt c (k + 1) < 0) : leftOk c i = false := by
  unfold leftOk
  rw [List.all_eq_false]
  exact ⟨k, List.mem_range.2 hk, by simp; omega⟩
theorem rd_cntOf (xs : List Int) (j : Nat) (h : j < 16) : 0 ≤ rd (cntOf xs) j ∧ rd (cntOf xs) j ≤ xs.length := by
  unfold cntOf
  rw [rd_set (by rw [cntTo_length]; omega)]
  split
  · omega
  · exact rd_cntTo_le xs xs.length j h
theorem leftAt_le (c : List Int) (hc : ∀ j, j < 16 → 0 ≤ rd c j) (i : Nat) (hi : i < 16) : leftAt c i ≤ 2 ^ i := by
  induction i with
  | zero => simp [leftAt]
  | succ i ih =>
    have h1 := ih (by omega)
    have h2 := hc (i + 1) hi
    simp only [leftAt, Int.pow_succ]
    omega
theorem sumAt_le (c : List Int) (n : Int) (hc : ∀ j, j < 16 → 0 ≤ rd c j ∧ rd c j ≤ n) (i : Nat) (hi : i < 16) : 0 ≤ sumAt c i ∧ sumAt c i ≤ i * n := by
  induction i with
  | zero => simp [sumAt]
  | succ i ih =>
    have h1 := ih (by omega)
    have h2 := hc (i + 1) hi
    simp only [sumAt]
    have e : ((i + 1 : Nat) : Int) * n = i * n + n := by rw [Int.natCast_add, Int.add_mul]; simp
    rw [e]
    omega

set_option maxHeartbeats 1000000 in
set_option maxRecDepth 200000 in
theorem Right_calls (A : Option Addr) (n cap : Nat) (xs : List Int) (w : World) (hR : Rd w .i64 A n xs) (hn : n ≤ 140737488351232) :
    Calls Tryd.prog 120 #[.slice A n cap] w fun e w' => e = .returned (.bool (rightB xs)) ∧ Below w.heap.size w w' := by
  have HR := Lib.hid hR
  have hlen := Lib.hid hR.1
  clear hR
  go_enter Tryd.func120, Tryd.ntmps120
  go_wp2_with fail
  refine (counts_calls A n cap xs _ HR.out hn).mono ?_
  rintro e w1 ⟨l, hl, rfl, hcnt, hb1⟩
  have Hl := Lib.hid hl
  cases hok : lensOk xs
  · have hrb : rightB xs = false := by unfold rightB; rw [hok]; rfl
    have Hrb := Lib.hid hrb
    have Hb1 := Lib.hid hb1
    clear hl hcnt hb1 hok hrb
    go_wp2_with (first
      | (refine wpList_store_row rfl 175 _ _ rfl w1.heap.size _ rfl rfl 175 _ (heap_alloc_new _ _) (by rw [ints_size, Hl.out]; kernel_rfl) (by rw [ints_size, Hl.out]; rfl) (ints_one _ _) ?_))
    go_ret
    rw [Hrb.out]
    exact ⟨rfl, (below_new Hb1.out (Nat.le_refl _) _).trans ⟨rfl, rfl, rfl, by simp, fun i hi => setRow_other _ w1.heap.size i _ (by have := Hb1.out.size; omega)⟩⟩
  · obtain rfl := hcnt hok
    have hrb : rightB xs = rightOf (cntOf xs) := by unfold rightB; rw [hok]; rfl
    have hrng := fun j hj => rd_cntOf xs j hj
    rw [hlen.out] at hrng
    generalize cntOf xs = c at *
    have Hrb := Lib.hid hrb
    have Hb1 := Lib.hid hb1
    have Hrng := Lib.hid hrng
    clear hl hcnt hb1 hok hrb hrng
    go_wp2_with (first
      | (refine wpList_store_row rfl 175 _ _ rfl w1.heap.size _ rfl rfl 175 _ (heap_alloc_new _ _) (by rw [ints_size, Hl.out]; kernel_rfl) (by rw [ints_size, Hl.out]; rfl) (ints_one _ _) ?_))
    have HB : Hid (Blk _ w1.heap.size 175 .i64 c) := setRow_heap _ w1.heap.size _ (ints .i64 c).toArray 175 _ (heap_alloc_new w1 (Obj.cells #[.int .i64 0, .int .i64 0, .int .i64 0, .int .i64 0, .int .i64 0, .int .i64 0, .int .i64 0, .int .i64 0, .int .i64 0, .int .i64 0, .int .i64 0, .int .i64 0, .int .i64 0, .int .i64 0, .int .i64 0, .int .i64 0] 175))
    have HW : Hid (Below w.heap.size w (World.setRow (w1.alloc (Obj.cells #[.int .i64 0, .int .i64 0, .int .i64 0, .int .i64 0, .int .i64 0, .int .i64 0, .int .i64 0, .int .i64 0, .int .i64 0, .int .i64 0, .int .i64 0, .int .i64 0, .int .i64 0, .int .i64 0, .int .i64 0, .int .i64 0] 175)) w1.heap.size (ints .i64 c).toArray)) := (below_new Hb1.out (Nat.le_refl _) _).trans ⟨rfl, rfl, rfl, by simp, fun i hi => setRow_other _ w1.heap.size i _ (by have := Hb1.out.size; omega)⟩
    generalize World.setRow (w1.alloc (Obj.cells #[.int .i64 0, .int .i64 0, .int .i64 0, .int .i64 0, .int .i64 0, .int .i64 0, .int .i64 0, .int .i64 0, .int .i64 0, .int .i64 0, .int .i64 0, .int .i64 0, .int .i64 0, .int .i64 0, .int .i64 0, .int .i64 0] 175)) w1.heap.size (ints .i64 c).toArray = W at *
    go_loop [5, 6, 7] (fun l a i => ∃ k : Nat, k ≤ 15 ∧ i = .int .i64 (1 + k) ∧ l = .int .i64 (leftAt c k) ∧ a = .int .i64 (sumAt c k) ∧ Hid (leftOk c k = true) ∧ 0 ≤ leftAt c k) (fun _ _ i => 16 - (intOf i).toNat)
    case atStart => exact ⟨0, by omega, rfl, rfl, rfl, rfl, by show (0 : Int) ≤ 1; omega⟩
    case round =>
      obtain ⟨k, hk, rfl, rfl, rfl, Hok, h0⟩ := hrel
      have hle := leftAt_le c (fun j hj => (Hrng.out j hj).1) k (by omega)
      have hle2 : (2 : Int) ^ k ≤ 2 ^ 15 := by
        have : (2 : Nat) ^ k ≤ 2 ^ 15 := Nat.pow_le_pow_right (by omega) hk
        exact_mod_cast this
      have hle3 : leftAt c k ≤ 32768 := Int.le_trans hle (Int.le_trans hle2 (by decide))
      have hsum := sumAt_le c n Hrng.out k (by omega)
      have hsum2 : sumAt c k ≤ 15 * n := by
        have : (k : Int) * n ≤ 15 * n := Int.mul_le_mul_of_nonneg_right (by omega) (by omega)
        omega
      obtain ⟨hs0, _⟩ := hsum
      clear hle hle2
      by_cases hlt : k < 15
      · have hcell := HB.out.cell (j := 1 + k) (by rw [Hl.out]; omega)
        have hr := Hrng.out (1 + k) (by omega)
        have el : leftAt c (k + 1) = 2 * leftAt c k - rd c (1 + k) := by rw [Nat.add_comm 1 k]; rfl
        have es : sumAt c (k + 1) = sumAt c k + rd c (1 + k) := by rw [Nat.add_comm 1 k]; rfl
        have El := Lib.hid el
        have Es := Lib.hid es
        clear el es
        go_wp2
        · go_ret
          have h1 : 2 * leftAt c k - rd c (1 + k) < 0 := by assumption
          rw [← El.out] at h1
          refine ⟨?_, HW.out⟩
          rw [Hrb.out, show rightOf c = false from by unfold rightOf; rw [leftOk_no c 15 k hlt h1]; rfl]
          rfl
        · go_round
          case rel =>
            have h1 : 0 ≤ 2 * leftAt c k - rd c (1 + k) := by assumption
            refine ⟨k + 1, by omega, by go_num, by rw [El.out], by rw [Es.out], ?_, by rw [El.out]; exact h1⟩
            show leftOk c (k + 1) = true
            have h2 : leftOk c k = true := Hok.out
            rw [leftOk_succ, h2, El.out]
            simpa using h1
          case measure => simp [intOf]; omega
      · obtain rfl : k = 15 := by omega
        have hcell := HB.out.cell (j := 1) (by rw [Hl.out]; omega)
        have hfin : rightB xs = (leftAt c 15 == 0 || (sumAt c 15 == 1 && rd c 1 == 1)) := by
          have h2 : leftOk c 15 = true := Hok.out
          rw [Hrb.out]; unfold rightOf; rw [h2]; rfl
        have Hfin := Lib.hid hfin
        clear hfin
        rcases Int.lt_trichotomy (leftAt c 15) 0 with g1 | g1 | g1
        · omega
        · have g2 : (leftAt c 15 == 0) = true := by simpa using g1
          have G := Lib.hid g1
          clear g1
          go_wp2
          go_ret
          refine ⟨?_, HW.out⟩
          rw [Hfin.out, G.out]
          rfl
        · have g2 : (leftAt c 15 == 0) = false := by simp; omega
          cases g3 : (sumAt c 15 == 1)
          all_goals
            go_wp2
            go_ret
            refine ⟨?_, HW.out⟩
            rw [Hfin.out, g2, g3]
            rfl
#print axioms Right_calls
end Go.Proofs.YtendohnkhbgfbaaDoor
/-
  The walks of the reference's bits (inkwellref01): Low, Of.
-/
namespace Go.Proofs.YtendohnkhbgfbaaDoor
open Go.RowKit

theorem elB : ElT Tryd.prog 22 5 (.int .u8 0) 1 1 := ⟨Tryd.underlying22, by kernel_rfl, rfl, by decide, by decide⟩
/-- The lowest bits of a number. -/
def lowOf (x n : Nat) : List Int := (List.range n).map fun i => ((x / 2 ^ i % 2 : Nat) : Int)
theorem lowOf_length (x n : Nat) : (lowOf x n).length = n := by simp [lowOf]
theorem lowOf_succ (x n : Nat) : lowOf x (n + 1) = lowOf x n ++ [((x / 2 ^ n % 2 : Nat) : Int)] := by simp [lowOf, List.range_succ]
set_option maxHeartbeats 1000000 in
set_option maxRecDepth 100000 in
theorem Low_calls (x n : Nat) (w : World) (hx : x < 18446744073709551616) (hn : n ≤ 64) :
    Calls Tryd.prog 96 #[.int .u64 x, .int .i64 n] w fun e w' => ∃ v, e = .returned v ∧ w'.ownsRow w.heap.size 5 1 v n (ints .u8 (lowOf x n)) ∧ Below w.heap.size w w' := by
  go_enter Tryd.func96, Tryd.ntmps96
  go_wp2
  go_loopw [0, 5, 6] (fun y v i wr => ∃ k : Nat, k ≤ n ∧ i = .int .i64 k ∧ y = .int .u64 (x / 2 ^ k : Nat) ∧ Hid (wr.ownsRow w.heap.size 5 1 v k (ints .u8 (lowOf x k))) ∧ Hid (Below w.heap.size w wr)) (fun _ _ i _ => n - (intOf i).toNat)
  case atStart => exact ⟨0, by omega, rfl, by simp, World.ownsRow_nil _ _ _ _, Below.refl _ _⟩
  case round =>
    obtain ⟨k, hk, rfl, rfl, Hown, Hbel⟩ := hrel
    have hsz := Hbel.out.size
    by_cases hlt : k < n
    · obtain ⟨y, hy⟩ : ∃ y : Nat, y = x / 2 ^ k := ⟨_, rfl⟩
      have hyx : y ≤ x := by rw [hy]; exact Nat.div_le_self _ _
      have hnx : x / 2 ^ (k + 1) = y / 2 := by rw [hy, Nat.div_div_eq_div_mul, Nat.pow_succ]
      have hlw := lowOf_succ x k
      rw [← hy] at hlw ⊢
      have Hnx := Lib.hid hnx
      have Hlw := Lib.hid hlw
      clear hnx hlw hy
      obtain ⟨A, c, rfl⟩ := own_slice Hown.out
      obtain ⟨z, hz, hz1, Hz⟩ : ∃ z : Nat, (y : Int) % 2 = (z : Int) ∧ z ≤ 1 ∧ Hid (y % 2 = z) := ⟨y % 2, by omega, by omega, rfl⟩
      rw [Hz.out] at Hlw
      go_wp2_with (at_builtin; refine wpList_app1 rfl _ _ rfl elB Hown.out rfl rfl rfl rfl (by omega) hsz ?_; intro v' w' hown' hbel' _)
      go_roundw
      case rel => exact ⟨k + 1, by omega, by go_num, by rw [Hnx.out]; go_num, by rw [Hlw.out, ints_append]; exact hown', Hbel.out.trans hbel'⟩
      case measure => simp [intOf]; omega
    · obtain rfl : k = n := by omega
      go_wp2
      go_ret
      exact ⟨_, rfl, Hown.out, Hbel.out⟩
/-- The bits of bytes, so many of them. -/
def bitsOf (bs : List Int) (p m : Nat) : List Int := (List.range m).map fun i => ((bitAt bs (p + i) : Nat) : Int)
theorem bitsOf_length (bs : List Int) (p m : Nat) : (bitsOf bs p m).length = m := by simp [bitsOf]
theorem rd_bitsOf {bs : List Int} {p m i : Nat} (h : i < m) : rd (bitsOf bs p m) i = ((bitAt bs (p + i) : Nat) : Int) := by
  rw [rd_getElem (by rw [bitsOf_length]; exact h)]
  simp [bitsOf]
theorem bitsOf_next (bs : List Int) (k : Nat) : bitsOf bs 0 (8 * (k + 1)) = bitsOf bs 0 (8 * k) ++ lowOf (rd bs k).toNat 8 := by
  apply ext_rd (by rw [List.length_append, bitsOf_length, bitsOf_length, lowOf_length]; omega)
  intro j hj
  rw [bitsOf_length] at hj
  rw [rd_bitsOf hj]
  rcases Nat.lt_or_ge j (8 * k) with g | g
  · rw [rd_appL (by rw [bitsOf_length]; exact g), rd_bitsOf g]
  · obtain ⟨i, rfl⟩ : ∃ i, j = 8 * k + i := ⟨j - 8 * k, by omega⟩
    have e : 8 * k + i = (bitsOf bs 0 (8 * k)).length + i := by rw [bitsOf_length]
    rw [e, rd_appR, ← e, rd_getElem (by rw [lowOf_length]; omega)]
    simp only [lowOf, List.getElem_map, List.getElem_range]
    unfold bitAt
    rw [show (0 + (8 * k + i)) / 8 = k from by omega, show (0 + (8 * k + i)) % 8 = i from by omega]
end Go.Proofs.YtendohnkhbgfbaaDoor
/-
  Bits as bytes: the lowest bit first (no program).
-/
namespace Go.Proofs.YtendohnkhbgfbaaDoor
open Go.RowKit

/-- The number that bits tell, the lowest first. -/
def pk (f : Nat → Nat) : Nat → Nat
  | 0 => 0
  | k + 1 => pk f k + f k * 2 ^ k
theorem pk_lt {f : Nat → Nat} (h : ∀ i, f i ≤ 1) (k : Nat) : pk f k < 2 ^ k := by
  induction k with
  | zero => simp [pk]
  | succ k ih =>
    have := Nat.mul_le_mul_right (2 ^ k) (h k)
    simp only [pk, Nat.pow_succ]
    omega
theorem pk_congr {f g : Nat → Nat} {k : Nat} (h : ∀ i, i < k → f i = g i) : pk f k = pk g k := by
  induction k with
  | zero => rfl
  | succ k ih =>
    simp only [pk]
    rw [ih (fun i hi => h i (by omega)), h k (by omega)]
theorem pk_bit {f : Nat → Nat} (h : ∀ i, f i ≤ 1) : ∀ (k i : Nat), i < k → pk f k / 2 ^ i % 2 = f i := by
  intro k
  induction k with
  | zero => intro i hi; omega
  | succ k ih =>
    intro i hi
    simp only [pk]
    rcases Nat.lt_or_ge i k with g | g
    · have e : f k * 2 ^ k = (f k * 2 ^ (k - i - 1) * 2) * 2 ^ i := by
        rw [Nat.mul_assoc, Nat.mul_assoc, ← Nat.pow_succ', ← Nat.pow_add]
        congr 2
        omega
      rw [e, Nat.add_mul_div_right _ _ (Nat.pow_pos (by omega)), Nat.add_mul_mod_self_right]
      exact ih i g
    · obtain rfl : i = k := by omega
      rw [Nat.add_mul_div_right _ _ (Nat.pow_pos (by omega)), Nat.div_eq_of_lt (pk_lt h i), Nat.zero_add]
      have := h i
      omega
theorem numAt_pk (bs : List Int) (p k : Nat) : numAt bs p k = pk (fun i => bitAt bs (p + i)) k := by
  induction k with
  | zero => rfl
  | succ k ih => simp only [numAt, pk, ih]
def Bit01 (L : List Int) : Prop := ∀ x ∈ L, x = 0 ∨ x = 1
theorem Bit01.rd {L : List Int} (h : Bit01 L) (i : Nat) : Go.Proofs.YtendohnkhbgfbaaDoor.rd L i = 0 ∨ Go.Proofs.YtendohnkhbgfbaaDoor.rd L i = 1 := by
  rcases Nat.lt_or_ge i L.length with g | g
  · rw [rd_getElem g]; exact h _ (List.getElem_mem _)
  · left
    unfold Go.Proofs.YtendohnkhbgfbaaDoor.rd
    rw [List.getD_eq_getElem?_getD, List.getElem?_eq_none g]
    rfl
theorem Bit01.app {a b : List Int} (ha : Bit01 a) (hb : Bit01 b) : Bit01 (a ++ b) := fun x hx => (List.mem_append.1 hx).elim (ha x) (hb x)
theorem rd_out {L : List Int} {i : Nat} (h : L.length ≤ i) : rd L i = 0 := by
  unfold rd
  rw [List.getD_eq_getElem?_getD, List.getElem?_eq_none h]
  rfl
def packAt (L : List Int) (j : Nat) : Nat := pk (fun i => (rd L (8 * j + i)).toNat) 8
theorem packAt_lt {L : List Int} (h : Bit01 L) (j : Nat) : packAt L j < 256 := pk_lt (fun i => by rcases h.rd (8 * j + i) with e | e <;> rw [e] <;> decide) 8
/-- The bytes of bits; the last ones filled up with 0. -/
def packB (L : List Int) : List Int := (List.range ((L.length + 7) / 8)).map fun j => (packAt L j : Int)
theorem packB_length (L : List Int) : (packB L).length = (L.length + 7) / 8 := by simp [packB]
theorem rd_packB {L : List Int} {j : Nat} (h : j < (L.length + 7) / 8) : rd (packB L) j = (packAt L j : Int) := by
  rw [rd_getElem (by rw [packB_length]; exact h)]
  simp [packB]
theorem bitAt_packB {L : List Int} (h : Bit01 L) {i : Nat} (hi : i < 8 * ((L.length + 7) / 8)) : bitAt (packB L) i = (rd L i).toNat := by
  unfold bitAt
  rw [rd_packB (by omega), Int.toNat_natCast]
  unfold packAt
  rw [pk_bit (fun i' => by rcases h.rd (8 * (i / 8) + i') with e | e <;> rw [e] <;> decide) 8 (i % 8) (by omega), show 8 * (i / 8) + i % 8 = i from by omega]
theorem packB_byte {L : List Int} (h : Bit01 L) (j : Nat) (hj : j < (L.length + 7) / 8) : 0 ≤ rd (packB L) j ∧ rd (packB L) j ≤ 255 := by
  have := packAt_lt h j
  rw [rd_packB hj]
  omega
theorem numAt_byte {L : List Int} (h : Bit01 L) {j : Nat} (hj : j < (L.length + 7) / 8) : numAt (packB L) (8 * j) 8 = packAt L j := by
  rw [numAt_pk]
  exact pk_congr (fun i hi => bitAt_packB h (by omega))
/-- A bit more, where a byte begins. -/
theorem packB_new {L : List Int} {x : Int} (hx : x = 0 ∨ x = 1) (h8 : L.length % 8 = 0) : packB (L ++ [x]) = packB L ++ [x] := by
  apply ext_rd (by rw [List.length_append, packB_length, packB_length, List.length_append]; simp; omega)
  intro j hj
  rw [packB_length, List.length_append, List.length_cons, List.length_nil] at hj
  rw [rd_packB (by rw [List.length_append]; simpa using hj)]
  rcases Nat.lt_or_ge j (L.length / 8) with g | g
  · rw [rd_appL (by rw [packB_length]; omega), rd_packB (by omega)]
    unfold packAt
    rw [pk_congr (fun i hi => by rw [rd_appL (by omega)])]
  · have e : j = (packB L).length + 0 := by rw [packB_length]; omega
    rw [e, rd_appR, ← e]
    have e8 : 8 * j = L.length := by rw [e, packB_length]; omega
    unfold packAt
    have key : ∀ i, i < 8 → (rd (L ++ [x]) (8 * j + i)).toNat = if i = 0 then x.toNat else 0 := by
      intro i hi
      rw [e8, rd_appR]
      by_cases h0 : i = 0
      · subst h0; rfl
      · rw [if_neg h0, rd_out (by simp; omega)]; rfl
    rw [pk_congr key]
    rcases hx with rfl | rfl <;> rfl
/-- A bit more, inside a byte. -/
theorem packB_in {L : List Int} {x : Int} (_hL : Bit01 L) (hx : x = 0 ∨ x = 1) (h8 : L.length % 8 ≠ 0) : packB (L ++ [x]) = (packB L).set (L.length / 8) ((packAt L (L.length / 8) : Int) + x * 2 ^ (L.length % 8)) ∧ packAt L (L.length / 8) < 2 ^ (L.length % 8) := by
  have hlow : packAt L (L.length / 8) = pk (fun i => (rd L (8 * (L.length / 8) + i)).toNat) (L.length % 8) := by
    unfold packAt
    have key : ∀ d k, 8 * (L.length / 8) + k ≥ L.length → pk (fun i => (rd L (8 * (L.length / 8) + i)).toNat) (k + d) = pk (fun i => (rd L (8 * (L.length / 8) + i)).toNat) k := by
      intro d k hk
      induction d with
      | zero => rfl
      | succ d ih =>
        show pk _ (k + d) + (rd L (8 * (L.length / 8) + (k + d))).toNat * 2 ^ (k + d) = _
        rw [ih, rd_out (by omega)]
        simp
    have := key (8 - L.length % 8) (L.length % 8) (by omega)
    rwa [show L.length % 8 + (8 - L.length % 8) = 8 from by omega] at this
  refine ⟨?_, by rw [hlow]; exact pk_lt (fun i => by rcases _hL.rd (8 * (L.length / 8) + i) with e | e <;> rw [e] <;> decide) _⟩
  apply ext_rd (by rw [List.length_set, packB_length, packB_length, List.length_append, List.length_cons, List.length_nil]; omega)
  intro j hj
  rw [packB_length, List.length_append, List.length_cons, List.length_nil] at hj
  rw [rd_packB (by rw [List.length_append]; simpa using hj), rd_set (by rw [packB_length]; omega)]
  by_cases g : L.length / 8 = j
  · rw [if_pos g, hlow, g]
    have key : ∀ d, L.length % 8 + 1 + d ≤ 8 → pk (fun i => (rd (L ++ [x]) (8 * j + i)).toNat) (L.length % 8 + 1 + d) = pk (fun i => (rd L (8 * j + i)).toNat) (L.length % 8) + x.toNat * 2 ^ (L.length % 8) := by
      intro d hd
      induction d with
      | zero =>
        show pk _ (L.length % 8) + (rd (L ++ [x]) (8 * j + L.length % 8)).toNat * 2 ^ (L.length % 8) = _
        rw [pk_congr (g := fun i => (rd L (8 * j + i)).toNat) (fun i hi => by rw [rd_appL (by omega)])]
        have e : 8 * j + L.length % 8 = L.length + 0 := by omega
        rw [e, rd_appR]
        rfl
      | succ d ih =>
        show pk _ (L.length % 8 + 1 + d) + (rd (L ++ [x]) (8 * j + (L.length % 8 + 1 + d))).toNat * 2 ^ (L.length % 8 + 1 + d) = _
        rw [ih (by omega), rd_out (by rw [List.length_append, List.length_cons, List.length_nil]; omega)]
        simp
    have h9 := key (7 - L.length % 8) (by omega)
    rw [show L.length % 8 + 1 + (7 - L.length % 8) = 8 from by omega] at h9
    unfold packAt
    rw [h9, Int.natCast_add, Int.natCast_mul, Int.natCast_pow]
    rcases hx with rfl | rfl <;> rfl
  · rw [if_neg g, rd_packB (by omega)]
    unfold packAt
    rw [pk_congr (fun i hi => by rw [rd_appL (by omega)])]
theorem lowOf_bit (x n : Nat) : Bit01 (lowOf x n) := fun y hy => by
  obtain ⟨i, _, rfl⟩ := List.mem_map.1 hy
  have := Nat.mod_lt (x / 2 ^ i) (show 0 < 2 by omega)
  omega
theorem rd_lowOf {x n i : Nat} (h : i < n) : rd (lowOf x n) i = ((x / 2 ^ i % 2 : Nat) : Int) := by
  rw [rd_getElem (by rw [lowOf_length]; exact h)]
  simp [lowOf]
end Go.Proofs.YtendohnkhbgfbaaDoor
/-
  Plain: bits put behind whole bytes; the bits and the bytes of stored blocks.
-/
namespace Go.Proofs.YtendohnkhbgfbaaDoor
open Go.RowKit

theorem packB_app {L M : List Int} (h8 : L.length % 8 = 0) : packB (L ++ M) = packB L ++ packB M := by
  apply ext_rd
  · rw [List.length_append, packB_length, packB_length, packB_length, List.length_append]; omega
  intro j hj
  rw [packB_length, List.length_append] at hj
  rw [rd_packB (by rw [List.length_append]; exact hj)]
  rcases Nat.lt_or_ge j (packB L).length with g | g
  · rw [rd_appL g]
    rw [packB_length] at g
    rw [rd_packB g]
    have : packAt (L ++ M) j = packAt L j := by
      unfold packAt
      exact pk_congr (fun i hi => by rw [rd_appL (by omega)])
    rw [this]
  · obtain ⟨i, rfl⟩ : ∃ i, j = (packB L).length + i := ⟨j - (packB L).length, by omega⟩
    rw [rd_appR]
    rw [packB_length] at hj
    rw [rd_packB (by omega)]
    have : packAt (L ++ M) ((packB L).length + i) = packAt M i := by
      unfold packAt
      exact pk_congr (fun t ht => by
        rw [show 8 * ((packB L).length + i) + t = L.length + (8 * i + t) by rw [packB_length]; omega, rd_appR])
    rw [this]
theorem packB_zeros (L : List Int) (k : Nat) (hk : (L.length + k + 7) / 8 = (L.length + 7) / 8) : packB (L ++ List.replicate k 0) = packB L := by
  apply ext_rd
  · rw [packB_length, packB_length, List.length_append, List.length_replicate]; omega
  intro j hj
  rw [packB_length, List.length_append, List.length_replicate] at hj
  rw [rd_packB (by rw [List.length_append, List.length_replicate]; exact hj), rd_packB (by omega)]
  have : packAt (L ++ List.replicate k 0) j = packAt L j := by
    unfold packAt
    exact pk_congr (fun i hi => by
      rcases Nat.lt_or_ge (8 * j + i) L.length with g | g
      · rw [rd_appL g]
      · obtain ⟨t, ht⟩ : ∃ t, 8 * j + i = L.length + t := ⟨8 * j + i - L.length, by omega⟩
        rw [ht, rd_appR, rd_out (L := L) (by omega)]
        have e : rd (List.replicate k 0) t = 0 := by
          unfold rd
          rw [List.getD_eq_getElem?_getD, List.getElem?_replicate]
          split <;> rfl
        rw [e])
  rw [this]
theorem pack8 : ∀ x : Nat, x < 256 → packAt (lowOf x 8) 0 = x := by decide +kernel
theorem packB_low8 {x : Nat} (h : x < 256) : packB (lowOf x 8) = [(x : Int)] := by
  have e : (lowOf x 8).length = 8 := lowOf_length x 8
  unfold packB
  rw [e]
  show [(packAt (lowOf x 8) 0 : Int)] = _
  rw [pack8 x h]
theorem lowOf16 (x : Nat) : lowOf x 16 = lowOf (x % 256) 8 ++ lowOf (x / 256) 8 := by
  simp only [lowOf, List.range_succ, List.range_zero, List.map_cons, List.map_nil, List.nil_append, List.cons_append, List.cons.injEq, and_true]
  refine ⟨?_, ?_, ?_, ?_, ?_, ?_, ?_, ?_, ?_, ?_, ?_, ?_, ?_, ?_, ?_, ?_⟩ <;> congr 1 <;> omega
theorem packB_low16 {x : Nat} (h : x < 65536) : packB (lowOf x 16) = [((x % 256 : Nat) : Int), ((x / 256 : Nat) : Int)] := by
  rw [lowOf16, packB_app (by rw [lowOf_length]), packB_low8 (by omega), packB_low8 (by omega)]
  rfl
/-- The bits of bytes. -/
def bytesS (b : List Int) : List Int := b.flatMap fun x => lowOf x.toNat 8
theorem bytesS_cons (x : Int) (b : List Int) : bytesS (x :: b) = lowOf x.toNat 8 ++ bytesS b := rfl
theorem bytesS_length (b : List Int) : (bytesS b).length = 8 * b.length := by
  induction b with
  | nil => rfl
  | cons x b ih => rw [bytesS_cons, List.length_append, ih, lowOf_length, List.length_cons]; omega
theorem bytesS_bit (b : List Int) : Bit01 (bytesS b) := by
  induction b with
  | nil => intro x hx; cases hx
  | cons x b ih => rw [bytesS_cons]; exact (lowOf_bit _ _).app ih
theorem packB_bytes {b : List Int} (h : ∀ x ∈ b, 0 ≤ x ∧ x ≤ 255) : packB (bytesS b) = b := by
  induction b with
  | nil => rfl
  | cons x b ih =>
    have hx := h x List.mem_cons_self
    rw [bytesS_cons, packB_app (by rw [lowOf_length]), packB_low8 (by omega), ih (fun y hy => h y (List.mem_cons_of_mem _ hy)), Int.toNat_of_nonneg hx.1]
    rfl
/-- A stored block's bits, from a whole byte on. -/
def stoBits : Nat → List Int → List Int
  | 0, _ => []
  | f + 1, b => if b.length ≤ 65535 then ([1, 0, 0, 0, 0, 0, 0, 0] ++ (lowOf b.length 16 ++ lowOf (65535 - b.length) 16)) ++ bytesS b
    else ([0, 0, 0, 0, 0, 0, 0, 0] ++ (lowOf 65535 16 ++ lowOf 0 16)) ++ bytesS (b.take 65535) ++ stoBits f (b.drop 65535)
/-- Its bytes. -/
def stoB : Nat → List Int → List Int
  | 0, _ => []
  | f + 1, b => if b.length ≤ 65535 then [1, ((b.length % 256 : Nat) : Int), ((b.length / 256 : Nat) : Int), ((255 - b.length % 256 : Nat) : Int), ((255 - b.length / 256 : Nat) : Int)] ++ b
    else [0, 255, 255, 0, 0] ++ b.take 65535 ++ stoB f (b.drop 65535)
theorem pack_one : packB [1, 0, 0, 0, 0, 0, 0, 0] = [1] := by decide +kernel
theorem pack_none : packB [0, 0, 0, 0, 0, 0, 0, 0] = [0] := by decide +kernel
theorem stoBits_pack : ∀ (f : Nat) {b : List Int}, (∀ x ∈ b, 0 ≤ x ∧ x ≤ 255) → packB (stoBits f b) = stoB f b := by
  intro f
  induction f with
  | zero => intro b _; show packB [] = []; decide +kernel
  | succ f ih =>
    intro b hb
    unfold stoBits stoB
    split
    · rename_i hl
      rw [packB_app (by simp [lowOf_length]), packB_app (by rfl), packB_app (by simp [lowOf_length]), pack_one, packB_low16 (by omega), packB_low16 (by omega), packB_bytes hb]
      rw [show (65535 - b.length) % 256 = 255 - b.length % 256 by omega, show (65535 - b.length) / 256 = 255 - b.length / 256 by omega]
      rfl
    · rw [packB_app (by simp [lowOf_length, bytesS_length]; omega), packB_app (by simp [lowOf_length]), packB_app (by rfl), packB_app (by simp [lowOf_length]), pack_none, packB_low16 (by omega), packB_low16 (by omega), packB_bytes (fun x hx => hb x (List.mem_of_mem_take hx)), ih (fun x hx => hb x (List.mem_of_mem_drop hx))]
      rfl
theorem stoBits_bit : ∀ (f : Nat) (b : List Int), Bit01 (stoBits f b) := by
  have h8 : Bit01 [1, 0, 0, 0, 0, 0, 0, 0] := by intro x hx; simp at hx; omega
  have h0 : Bit01 [0, 0, 0, 0, 0, 0, 0, 0] := by intro x hx; simp at hx; omega
  intro f
  induction f with
  | zero => intro b x hx; cases hx
  | succ f ih =>
    intro b
    unfold stoBits
    split
    · exact (h8.app ((lowOf_bit _ _).app (lowOf_bit _ _))).app (bytesS_bit _)
    · exact ((h0.app ((lowOf_bit _ _).app (lowOf_bit _ _))).app (bytesS_bit _)).app (ih _)
end Go.Proofs.YtendohnkhbgfbaaDoor
/-
  Plain: the tokens that bytes are told by: the longest match among all distances, the nearest of these; the same by a chain of places where three bytes stood.
-/
namespace Go.Proofs.YtendohnkhbgfbaaDoor
open Go.RowKit

def sameFrom (b : List Int) (p q : Nat) : Nat → Nat → Nat
  | 0, n => n
  | f + 1, n => if q + n < b.length ∧ rd b (p + n) = rd b (q + n) then sameFrom b p q f (n + 1) else n
/-- How many bytes at two places are the same, at most 258. -/
def sameN (b : List Int) (p q : Nat) : Nat := sameFrom b p q 258 0
theorem sameFrom_rng (b : List Int) (p q : Nat) : ∀ f n, n ≤ sameFrom b p q f n ∧ sameFrom b p q f n ≤ n + f := by
  intro f
  induction f with
  | zero => intro n; exact ⟨Nat.le_refl _, Nat.le_refl _⟩
  | succ f ih =>
    intro n
    unfold sameFrom
    split
    · have := ih (n + 1); omega
    · omega
theorem sameN_le (b : List Int) (p q : Nat) : sameN b p q ≤ 258 := by
  have := (sameFrom_rng b p q 258 0).2
  unfold sameN
  omega
theorem sameFrom_eq (b : List Int) (p q : Nat) : ∀ f n j, n ≤ j → j < sameFrom b p q f n → q + j < b.length ∧ rd b (p + j) = rd b (q + j) := by
  intro f
  induction f with
  | zero => intro n j h1 h2; unfold sameFrom at h2; omega
  | succ f ih =>
    intro n j h1 h2
    unfold sameFrom at h2
    split at h2
    · rename_i hc
      rcases Nat.lt_or_ge n j with g | g
      · exact ih (n + 1) j g h2
      · obtain rfl : j = n := by omega
        exact hc
    · omega
theorem sameN_eq (b : List Int) (p q j : Nat) (h : j < sameN b p q) : q + j < b.length ∧ rd b (p + j) = rd b (q + j) := sameFrom_eq b p q 258 0 j (Nat.zero_le _) h
theorem sameN_three {b : List Int} {p q : Nat} (hq : q + 3 ≤ b.length) (h0 : rd b p = rd b q) (h1 : rd b (p + 1) = rd b (q + 1)) (h2 : rd b (p + 2) = rd b (q + 2)) : 3 ≤ sameN b p q := by
  have e : sameN b p q = sameFrom b p q 255 3 := by
    unfold sameN
    show sameFrom b p q (257 + 1) 0 = _
    rw [sameFrom, if_pos ⟨by omega, h0⟩]
    show sameFrom b p q (256 + 1) 1 = _
    rw [sameFrom, if_pos ⟨by omega, h1⟩]
    show sameFrom b p q (255 + 1) 2 = _
    rw [sameFrom, if_pos ⟨by omega, h2⟩]
  rw [e]
  exact (sameFrom_rng b p q 255 3).1
def bestTo (b : List Int) (i : Nat) : Nat → Nat × Nat
  | 0 => (0, 0)
  | d + 1 => if (bestTo b i d).1 < sameN b (i - (d + 1)) i then (sameN b (i - (d + 1)) i, d + 1) else bestTo b i d
/-- The longest match at a place, the nearest of these. -/
def bestM (b : List Int) (i : Nat) : Nat × Nat := bestTo b i (min i 32768)
theorem bestTo_le (b : List Int) (i : Nat) : ∀ d, (bestTo b i d).1 ≤ 258 ∧ (bestTo b i d).2 ≤ d := by
  intro d
  induction d with
  | zero => exact ⟨Nat.zero_le _, Nat.le_refl _⟩
  | succ d ih =>
    unfold bestTo
    split
    · exact ⟨sameN_le _ _ _, Nat.le_refl _⟩
    · exact ⟨ih.1, Nat.le_succ_of_le ih.2⟩
theorem bestTo_match (b : List Int) (i : Nat) : ∀ d, 0 < (bestTo b i d).1 → 1 ≤ (bestTo b i d).2 ∧ (bestTo b i d).1 = sameN b (i - (bestTo b i d).2) i := by
  intro d
  induction d with
  | zero => intro h; exact absurd h (Nat.lt_irrefl _)
  | succ d ih =>
    unfold bestTo
    split
    · intro _; exact ⟨Nat.succ_le_succ (Nat.zero_le _), rfl⟩
    · exact ih
/-- What a match of fewer than three bytes counts for: nothing. -/
def cl (m : Nat × Nat) : Nat × Nat := if m.1 < 3 then (0, 0) else m
theorem cl_step (b : List Int) (i d : Nat) : cl (bestTo b i (d + 1)) = if 3 ≤ sameN b (i - (d + 1)) i ∧ (cl (bestTo b i d)).1 < sameN b (i - (d + 1)) i then (sameN b (i - (d + 1)) i, d + 1) else cl (bestTo b i d) := by
  generalize hs : sameN b (i - (d + 1)) i = s
  generalize hm : bestTo b i d = m
  have e : bestTo b i (d + 1) = if m.1 < s then (s, d + 1) else m := by
    show (if (bestTo b i d).1 < sameN b (i - (d + 1)) i then (sameN b (i - (d + 1)) i, d + 1) else bestTo b i d) = _
    rw [hs, hm]
  rw [e]
  unfold cl
  rcases Nat.lt_or_ge m.1 s with g | g <;> rcases Nat.lt_or_ge m.1 3 with g3 | g3 <;> rcases Nat.lt_or_ge s 3 with s3 | s3
  · rw [if_pos g, if_pos s3, if_pos g3, if_neg (by omega)]
  · rw [if_pos g, if_neg (Nat.not_lt.2 s3), if_pos g3, if_pos ⟨s3, by show 0 < s; omega⟩]
  · omega
  · rw [if_pos g, if_neg (Nat.not_lt.2 s3), if_neg (Nat.not_lt.2 g3), if_pos ⟨s3, g⟩]
  · rw [if_neg (Nat.not_lt.2 g), if_pos g3, if_neg (by omega)]
  · omega
  · rw [if_neg (Nat.not_lt.2 g), if_neg (Nat.not_lt.2 g3), if_neg (by omega)]
  · rw [if_neg (Nat.not_lt.2 g), if_neg (Nat.not_lt.2 g3), if_neg (fun h => absurd h.2 (Nat.not_lt.2 g))]
theorem cl_gap (b : List Int) (i c : Nat) (hc : c ≤ i) : ∀ k, k ≤ c → (∀ p, c - k ≤ p → p < c → sameN b p i < 3) → cl (bestTo b i (i - (c - k))) = cl (bestTo b i (i - c)) := by
  intro k
  induction k with
  | zero => intro _ _; rfl
  | succ k ih =>
    intro hk h
    rw [← ih (by omega) (fun p h1 h2 => h p (by omega) h2)]
    have e : i - (c - (k + 1)) = (i - (c - k)) + 1 := by omega
    rw [e, cl_step]
    have e2 : i - (i - (c - k) + 1) = c - (k + 1) := by omega
    rw [e2, if_neg (fun hh => absurd hh.1 (Nat.not_le.2 (h (c - (k + 1)) (Nat.le_refl _) (by omega))))]
theorem best_full (b : List Int) (i d : Nat) (h : (bestTo b i d).1 = 258) : ∀ k, bestTo b i (d + k) = bestTo b i d := by
  intro k
  induction k with
  | zero => rfl
  | succ k ih =>
    show (if (bestTo b i (d + k)).1 < sameN b (i - (d + k + 1)) i then (sameN b (i - (d + k + 1)) i, d + k + 1) else bestTo b i (d + k)) = _
    rw [ih, if_neg]
    have := sameN_le b (i - (d + k + 1)) i
    omega
/-- Where three bytes stood last ahead of a place; -1: nowhere. -/
def lastAt (b : List Int) (x y z : Int) : Nat → Int
  | 0 => -1
  | p + 1 => if p + 3 ≤ b.length ∧ rd b p = x ∧ rd b (p + 1) = y ∧ rd b (p + 2) = z then (p : Int) else lastAt b x y z p
def prevAt (b : List Int) (p : Nat) : Int := if p + 3 ≤ b.length then lastAt b (rd b p) (rd b (p + 1)) (rd b (p + 2)) p else -1
theorem lastAt_cases (b : List Int) (x y z : Int) : ∀ c, (lastAt b x y z c = -1 ∧ ∀ p, p < c → p + 3 ≤ b.length → ¬ (rd b p = x ∧ rd b (p + 1) = y ∧ rd b (p + 2) = z)) ∨ ∃ p : Nat, p < c ∧ lastAt b x y z c = p ∧ p + 3 ≤ b.length ∧ (rd b p = x ∧ rd b (p + 1) = y ∧ rd b (p + 2) = z) ∧ ∀ q, p < q → q < c → q + 3 ≤ b.length → ¬ (rd b q = x ∧ rd b (q + 1) = y ∧ rd b (q + 2) = z) := by
  intro c
  induction c with
  | zero => exact .inl ⟨rfl, fun p h => by omega⟩
  | succ c ih =>
    unfold lastAt
    split
    · rename_i h
      exact .inr ⟨c, Nat.lt_succ_self _, rfl, h.1, h.2, fun q h1 h2 => by omega⟩
    · rename_i h
      rcases ih with ⟨e, h2⟩ | ⟨p, hp, e, h3, h4, h5⟩
      · refine .inl ⟨e, fun p hp h3 hh => ?_⟩
        rcases Nat.lt_or_ge p c with g | g
        · exact h2 p g h3 hh
        · obtain rfl : p = c := by omega
          exact h ⟨h3, hh⟩
      · refine .inr ⟨p, by omega, e, h3, h4, fun q h6 h7 h8 hh => ?_⟩
        rcases Nat.lt_or_ge q c with g | g
        · exact h5 q h6 g h8 hh
        · obtain rfl : q = c := by omega
          exact h ⟨h8, hh⟩
/-- The chain's state: all places from c on are looked at. -/
structure Find (b : List Int) (i c : Nat) (at' : Int) (m : Nat × Nat) : Prop where
  le : c ≤ i
  far : i - c ≤ 32768
  last : at' = lastAt b (rd b i) (rd b (i + 1)) (rd b (i + 2)) c
  best : m = cl (bestTo b i (i - c))
theorem not_key {b : List Int} {p i : Nat} (hp : p < i) (hi : i + 3 ≤ b.length) (h : p + 3 ≤ b.length → ¬ (rd b p = rd b i ∧ rd b (p + 1) = rd b (i + 1) ∧ rd b (p + 2) = rd b (i + 2))) : sameN b p i < 3 := by
  refine Nat.not_le.1 fun hn => ?_
  have e0 := (sameN_eq b p i 0 (by omega)).2
  have e1 := (sameN_eq b p i 1 (by omega)).2
  have e2 := (sameN_eq b p i 2 (by omega)).2
  exact h (by omega) ⟨e0, e1, e2⟩
theorem Find.start (b : List Int) (i : Nat) : Find b i i (lastAt b (rd b i) (rd b (i + 1)) (rd b (i + 2)) i) (0, 0) :=
  ⟨Nat.le_refl _, by omega, rfl, by rw [Nat.sub_self]; rfl⟩
theorem Find.next {b : List Int} {i c p : Nat} {m : Nat × Nat} (hi : i + 3 ≤ b.length) (h : Find b i c (p : Int) m) (hf : i - p ≤ 32768) :
    p < c ∧ p + 3 ≤ b.length ∧ Find b i p (prevAt b p) (if m.1 < sameN b p i then (sameN b p i, i - p) else m) := by
  rcases lastAt_cases b (rd b i) (rd b (i + 1)) (rd b (i + 2)) c with ⟨e, _⟩ | ⟨p', hp, e, h3, h4, h5⟩
  · have := h.last.trans e; omega
  · have e0 : (p : Int) = p' := h.last.trans e
    obtain rfl : p = p' := by omega
    refine ⟨hp, h3, by have := h.le; omega, hf, ?_, ?_⟩
    · unfold prevAt
      rw [if_pos h3, h4.1, h4.2.1, h4.2.2]
    · have hle := h.le
      have g := cl_gap b i c h.le (c - (p + 1)) (by omega) (fun q h6 h7 => not_key (by omega) hi (fun h8 => h5 q (by omega) h7 h8))
      have e1 : i - (c - (c - (p + 1))) = i - p - 1 := by omega
      rw [e1, ← h.best] at g
      have s3 := sameN_three (p := p) hi h4.1 h4.2.1 h4.2.2
      have k := cl_step b i (i - p - 1)
      have e2 : i - p - 1 + 1 = i - p := by omega
      have e3 : i - (i - p) = p := by omega
      rw [e2, e3, g] at k
      rw [k]
      by_cases hm : m.1 < sameN b p i
      · rw [if_pos hm, if_pos ⟨s3, hm⟩]
      · rw [if_neg hm, if_neg (fun hh => hm hh.2)]
theorem Find.stop {b : List Int} {i c : Nat} {at' : Int} {m : Nat × Nat} (hi : i + 3 ≤ b.length) (h : Find b i c at' m) (he : at' < 0 ∨ 32768 < (i : Int) - at' ∨ 258 ≤ m.1) : m = cl (bestM b i) := by
  have hle := h.le
  have hfar := h.far
  unfold bestM
  by_cases hm : 258 ≤ m.1
  · have hb := h.best
    have h258 : (bestTo b i (i - c)).1 = 258 := by
      have l := (bestTo_le b i (i - c)).1
      rw [hb] at hm
      unfold cl at hm
      split at hm
      · exact absurd hm (by decide)
      · omega
    have e : min i 32768 = (i - c) + (min i 32768 - (i - c)) := by omega
    rw [e, best_full b i _ h258, hb]
  · rcases lastAt_cases b (rd b i) (rd b (i + 1)) (rd b (i + 2)) c with ⟨e, h2⟩ | ⟨p, hp, e, h3, h4, h5⟩
    · have g := cl_gap b i c hle (c - (i - min i 32768)) (by omega) (fun q h6 h7 => not_key (by omega) hi (fun h8 => h2 q h7 h8))
      have e1 : i - (c - (c - (i - min i 32768))) = min i 32768 := by omega
      rw [e1] at g
      rw [g, h.best]
    · have ea := h.last.trans e
      have hpf : 32768 < i - p := by omega
      have g := cl_gap b i c hle (c - (i - 32768)) (by omega) (fun q h6 h7 => not_key (by omega) hi (fun h8 => h5 q (by omega) h7 h8))
      have e1 : i - (c - (c - (i - 32768))) = min i 32768 := by omega
      rw [e1] at g
      rw [g, h.best]
theorem best_short {b : List Int} {i : Nat} (hi : ¬ i + 3 ≤ b.length) : cl (bestM b i) = (0, 0) := by
  unfold cl
  rw [if_pos]
  refine Nat.not_le.1 fun h => ?_
  have m := bestTo_match b i (min i 32768) (by unfold bestM at h; omega)
  unfold bestM at h
  have := (sameN_eq b (i - (bestTo b i (min i 32768)).2) i 2 (by omega)).1
  omega
/-- The tokens from a place on. -/
def pressFrom (b : List Int) : Nat → Nat → List (Int × Int × Int)
  | 0, _ => []
  | f + 1, i => if i < b.length then (if (bestM b i).1 < 3 then (rd b i, 0, 0) :: pressFrom b f (i + 1) else (0, ((bestM b i).1 : Int), ((bestM b i).2 : Int)) :: pressFrom b f (i + (bestM b i).1)) else []
def pressL (b : List Int) : List (Int × Int × Int) := pressFrom b b.length 0
theorem pressFrom_end (b : List Int) (f i : Nat) (h : b.length ≤ i) : pressFrom b f i = [] := by
  cases f with
  | zero => rfl
  | succ f => unfold pressFrom; rw [if_neg (Nat.not_lt.2 h)]
/-- A match as it may be. -/
theorem bestM_rng {b : List Int} {i : Nat} (h : 3 ≤ (bestM b i).1) : (bestM b i).1 ≤ 258 ∧ 1 ≤ (bestM b i).2 ∧ (bestM b i).2 ≤ 32768 ∧ (bestM b i).2 ≤ i ∧ i + (bestM b i).1 ≤ b.length ∧ ∀ j, j < (bestM b i).1 → rd b (i + j) = rd b (i - (bestM b i).2 + j) := by
  have l := bestTo_le b i (min i 32768)
  have m := bestTo_match b i (min i 32768) (by unfold bestM at h; omega)
  unfold bestM at h ⊢
  refine ⟨l.1, m.1, by omega, by omega, ?_, fun j hj => ?_⟩
  · have := (sameN_eq b (i - (bestTo b i (min i 32768)).2) i ((bestTo b i (min i 32768)).1 - 1) (by omega)).1
    omega
  · exact (sameN_eq b (i - (bestTo b i (min i 32768)).2) i j (by omega)).2.symm
theorem pressFrom_ok {b : List Int} (hb : ∀ j, j < b.length → 0 ≤ rd b j ∧ rd b j ≤ 255) : ∀ f i, ∀ t ∈ pressFrom b f i, (t.2.1 = 0 ∧ t.2.2 = 0 ∧ 0 ≤ t.1 ∧ t.1 ≤ 255) ∨ (t.1 = 0 ∧ 3 ≤ t.2.1 ∧ t.2.1 ≤ 258 ∧ 1 ≤ t.2.2 ∧ t.2.2 ≤ 32768) := by
  intro f
  induction f with
  | zero => intro i t ht; cases ht
  | succ f ih =>
    intro i t ht
    unfold pressFrom at ht
    split at ht
    · rename_i hi
      split at ht
      · rcases List.mem_cons.1 ht with rfl | h
        · exact .inl ⟨rfl, rfl, hb i hi⟩
        · exact ih _ t h
      · rename_i h3
        rcases List.mem_cons.1 ht with rfl | h
        · have r := bestM_rng (b := b) (i := i) (by omega)
          exact .inr ⟨rfl, by show (3 : Int) ≤ ((bestM b i).1 : Int); omega, by show ((bestM b i).1 : Int) ≤ 258; omega, by show (1 : Int) ≤ ((bestM b i).2 : Int); omega, by show ((bestM b i).2 : Int) ≤ 32768; omega⟩
        · exact ih _ t h
    · cases ht
theorem pressFrom_length (b : List Int) : ∀ f i, (pressFrom b f i).length ≤ f := by
  intro f
  induction f with
  | zero => intro i; exact Nat.le_refl _
  | succ f ih =>
    intro i
    unfold pressFrom
    split
    · split
      · rw [List.length_cons]; exact Nat.succ_le_succ (ih _)
      · rw [List.length_cons]; exact Nat.succ_le_succ (ih _)
    · exact Nat.zero_le _
end Go.Proofs.YtendohnkhbgfbaaDoor
/-
  Slices of tokens (a byte, a length, a distance) as rows hold them.
-/
namespace Go.Proofs.YtendohnkhbgfbaaDoor
open Go.RowKit

abbrev Tok := Int × Int × Int
def tokB (ts : List Tok) (j : Nat) : Int := (ts.getD j (0, 0, 0)).1
def tokL (ts : List Tok) (j : Nat) : Int := (ts.getD j (0, 0, 0)).2.1
def tokD (ts : List Tok) (j : Nat) : Int := (ts.getD j (0, 0, 0)).2.2
def Toks (w : World) (A : Option Addr) (n : Nat) (ts : List Tok) : Prop :=
  ts.length = n ∧ (0 < n → ∃ b o, A = some ⟨b, o, none⟩ ∧ ∀ j, j < n → w.cell? ⟨b, o + j * 3, none⟩ = some (.int .u8 (tokB ts j)) ∧ w.cell? ⟨b, o + j * 3 + 1, none⟩ = some (.int .i64 (tokL ts j)) ∧ w.cell? ⟨b, o + j * 3 + 2, none⟩ = some (.int .i64 (tokD ts j)))
theorem Toks.below {w w1 : World} {A : Option Addr} {n : Nat} {ts : List Tok} (h : Toks w A n ts) (hb : Below w.heap.size w w1) : Toks w1 A n ts :=
  ⟨h.1, fun hn => by obtain ⟨b, o, e, hc⟩ := h.2 hn; exact ⟨b, o, e, fun j hj => ⟨kept_cell hb (hc j hj).1, kept_cell hb (hc j hj).2.1, kept_cell hb (hc j hj).2.2⟩⟩⟩
def TokWf (ts : List Tok) (n : Nat) : Prop := ∀ j, j < n → (0 ≤ tokB ts j ∧ tokB ts j ≤ 255) ∧ (-9223372036854775808 ≤ tokL ts j ∧ tokL ts j ≤ 9223372036854775807) ∧ (-9223372036854775808 ≤ tokD ts j ∧ tokD ts j ≤ 9223372036854775807)

theorem list_choice {P : Nat → Tok → Prop} (n : Nat) (h : ∀ j, j < n → ∃ x, P j x) : ∃ l : List Tok, l.length = n ∧ ∀ j, j < n → P j (l.getD j (0, 0, 0)) := by
  have h' : ∀ j, ∃ x, j < n → P j x := fun j => by
    by_cases hj : j < n
    · obtain ⟨x, hx⟩ := h j hj; exact ⟨x, fun _ => hx⟩
    · exact ⟨(0, 0, 0), fun hh => absurd hh hj⟩
  have ⟨f, hf⟩ := Classical.axiomOfChoice h'
  refine ⟨(List.range n).map f, by simp, fun j hj => ?_⟩
  have : ((List.range n).map f).getD j (0, 0, 0) = f j := by simp [List.getD_eq_getElem?_getD, List.getElem?_range hj]
  rw [this]
  exact hf j hj
theorem i64_of_wf {n : Int} (h : (Lit.int .i64 n).wf = true) : -9223372036854775808 ≤ n ∧ n ≤ 9223372036854775807 := by
  simp [Lit.wf, IntKind.min, IntKind.max, IntKind.signed, IntKind.bits] at h
  omega
theorem toks_of_trod {H : Type} {enc : TypeId × Value → H} {P : Program} {w : World} {base : Nat} {sp : Nat → Bool} {held : Bool} {t e : TypeId} {f0 f1 f2 : Field} {v : Value} {d : DataW H} {p : List MemPlace}
    (ht : P.underlying t = some (.slice e)) (he : P.underlying e = some (.struct #[f0, f1, f2])) (o0 : f0.offset = 0) (o1 : f1.offset = 1) (o2 : f2.offset = 2) (k0 : P.underlying f0.type = some (.int .u8)) (k1 : P.underlying f1.type = some (.int .i64)) (k2 : P.underlying f2.type = some (.int .i64))
    (c0 : P.cellsOf f0.type = 1) (c1 : P.cellsOf f1.type = 1) (c2 : P.cellsOf f2.type = 1) (ce : P.cellsOf e = 3) (hv : ∃ A n c, v = .slice A n c)
    (h : DataW.Trod enc P w base sp held t v d p) :
    ∃ A n c ts, v = .slice A n c ∧ n ≤ maxLen ∧ Toks w A n ts ∧ TokWf ts n := by
  obtain ⟨fuel, hf⟩ := h
  obtain ⟨A, n, c, rfl⟩ := hv
  rcases DataW.trod_slice ht hf with ⟨hcs, _⟩ | ⟨a, len, cap, elems, rest, m, _, hcs, _, hb, hl, hm, hlen, hel, _, _⟩
  · simp [Value.cells] at hcs
    obtain ⟨rfl, rfl, rfl⟩ := hcs
    exact ⟨none, 0, 0, [], rfl, by simp [maxLen], ⟨rfl, fun hh => by omega⟩, fun j hj => by omega⟩
  · simp [Value.cells] at hcs
    obtain ⟨rfl, rfl, rfl⟩ := hcs
    obtain ⟨b, o, s⟩ := a
    have each : ∀ j, j < n → ∃ x : Tok, (w.cell? ((⟨b, o, s⟩ : Addr).add (j * 3)) = some (.int .u8 x.1) ∧ w.cell? (((⟨b, o, s⟩ : Addr).add (j * 3)).add 1) = some (.int .i64 x.2.1) ∧ w.cell? (((⟨b, o, s⟩ : Addr).add (j * 3)).add 2) = some (.int .i64 x.2.2)) ∧ (Lit.int .u8 x.1).wf = true ∧ (Lit.int .i64 x.2.1).wf = true ∧ (Lit.int .i64 x.2.2).wf = true := by
      intro j hj
      have hz := hel j hj
      rw [ce, List.getElem?_eq_getElem (show j < elems.length by omega)] at hz
      obtain ⟨cs, hcs, hz⟩ := Option.bind_eq_some_iff.1 hz
      obtain ⟨_, hcl, hcc⟩ := World.cells?_some hcs
      obtain ⟨xs, m', _, _, _, hxl, hx⟩ := DataW.trod_struct he hz
      have hxl3 : xs.length = 3 := by simpa using hxl
      match cs, hcl with
      | [y0, y1, y2], _ =>
        have g0 := hx 0 f0 rfl
        have g1 := hx 1 f1 rfl
        have g2 := hx 2 f2 rfl
        rw [List.getElem?_eq_getElem (by omega), o0, c0] at g0
        rw [List.getElem?_eq_getElem (by omega), o1, c1] at g1
        rw [List.getElem?_eq_getElem (by omega), o2, c2] at g2
        obtain ⟨n0, e0, _, q0⟩ := DataW.trod_int k0 g0
        obtain ⟨n1, e1, _, q1⟩ := DataW.trod_int k1 g1
        obtain ⟨n2, e2, _, q2⟩ := DataW.trod_int k2 g2
        simp at e0 e1 e2
        subst e0 e1 e2
        have a0 := hcc 0 (by omega)
        have a1 := hcc 1 (by omega)
        have a2 := hcc 2 (by omega)
        exact ⟨(n0, n1, n2), ⟨by simpa [Addr.add] using a0, by simpa using a1, by simpa using a2⟩, q0, q1, q2⟩
    obtain ⟨ts, htl, hts⟩ := list_choice n each
    refine ⟨_, n, c, ts, rfl, by omega, ⟨htl, fun hn => ?_⟩, fun j hj => ?_⟩
    · have hs : s = none := by simpa [Addr.add] using World.cell?_spot (hts 0 hn).1.1
      subst hs
      refine ⟨b, o, rfl, fun j hj => ?_⟩
      have ad : ∀ (x k : Nat), (⟨b, x, none⟩ : Addr).add k = ⟨b, x + k, none⟩ := fun x k => by unfold Addr.add; split <;> simp_all
      have := (hts j hj).1
      rw [ad, ad, ad] at this
      exact this
    · obtain ⟨_, q0, q1, q2⟩ := hts j hj
      exact ⟨u8_of_wf q0, i64_of_wf q1, i64_of_wf q2⟩
end Go.Proofs.YtendohnkhbgfbaaDoor
