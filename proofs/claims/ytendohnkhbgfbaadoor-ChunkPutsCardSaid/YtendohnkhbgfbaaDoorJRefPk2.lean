/-
  Texts joined into one file: HuffW, ShaB, StepA, RdA.
-/
import Derived.Test.YtendohnkhbgfbaaDoorJRefPk1
import Derived.Laws.Tables
import Derived.IntWalk
import Derived.Deep.Cut
import Derived.Deep.CutRange
import Derived.Deep.CutBlock
import Derived.StillTailTactics
import Derived.Deep.QuietTactic
import Derived.BigQuiet
namespace Go.Proofs.YtendohnkhbgfbaaDoor
open Go.RowKit

def cntTo (xs : List Int) (k : Nat) : List Int := (List.range 16).map fun (j : Nat) => (((xs.take k).filter fun x => x == (j : Int)).length : Int)
def lensOk (xs : List Int) : Bool := xs.all fun x => decide (0 ≤ x ∧ x ≤ 15)
def cntOf (xs : List Int) : List Int := (cntTo xs xs.length).set 0 0

theorem cntTo_length (xs : List Int) (k : Nat) : (cntTo xs k).length = 16 := by simp [cntTo]
theorem rd_cntTo (xs : List Int) (k j : Nat) (h : j < 16) : rd (cntTo xs k) j = (((xs.take k).filter fun x => x == (j : Int)).length : Int) := by
 rw [rd_getElem (by rw [cntTo_length]; exact h)]
 simp [cntTo]
theorem rd_cntTo_le (xs : List Int) (k j : Nat) (h : j < 16) : 0 ≤ rd (cntTo xs k) j ∧ rd (cntTo xs k) j ≤ k := by
 rw [rd_cntTo xs k j h]
 have h1 := List.length_filter_le (fun x => x == (j : Int)) (xs.take k)
 have h2 := List.length_take_le k xs
 omega
theorem ext_rd {a b : List Int} (hl : a.length = b.length) (h : ∀ j, j < a.length → rd a j = rd b j) : a = b := by
 apply List.ext_getElem hl
 intro i h1 h2
 rw [← rd_getElem h1, ← rd_getElem h2]
 exact h i h1
theorem cntTo_succ (xs : List Int) (k m : Nat) (hk : k < xs.length) (hm : rd xs k = (m : Int)) (h16 : m < 16) : cntTo xs (k + 1) = (cntTo xs k).set m (rd (cntTo xs k) m + 1) := by
 apply ext_rd (by simp [cntTo_length])
 intro j hj
 rw [cntTo_length] at hj
 rw [rd_set (by rw [cntTo_length]; exact h16), rd_cntTo _ _ _ hj, rd_cntTo _ _ _ h16, rd_cntTo _ _ _ hj, List.take_succ_eq_append_getElem hk, ← rd_getElem hk, hm, List.filter_append]
 by_cases e : m = j
 ·subst e
  rw [if_pos rfl]
  simp
 ·rw [if_neg e]
  have : ((m : Int) == (j : Int)) = false := by simp; omega
  simp [this]

set_option maxHeartbeats 1000000 in
set_option maxRecDepth 200000 in
theorem counts_calls (A : Option Addr) (n cap : Nat) (xs : List Int) (w : World) (hR : Rd w .i64 A n xs) (hn : n ≤ 140737488351232) :
  Calls Tryd.prog 109 #[.slice A n cap] w fun e w' => ∃ l : List Int, l.length = 16 ∧ e = .returned (.tuple #[.agg (ints .i64 l).toArray, .bool (lensOk xs)]) ∧ (lensOk xs = true → l = cntOf xs) ∧ Below w.heap.size w w' := by
 have HR := Lib.hid hR
 have hlen := Lib.hid hR.1
 clear hR
 go_enter Tryd.func109, Tryd.ntmps109
 go_wp2
 go_loopw [6, 9] (fun x i wr => ∃ k : Nat, k ≤ n ∧ i = .int .i64 k ∧ Blk wr w.heap.size 175 .i64 (List.replicate 16 0) ∧ Blk wr (w.heap.size + 1) 175 .i64 (cntTo xs k) ∧ Hid (lensOk (xs.take k) = true) ∧ Below w.heap.size w wr) (fun _ i _ => n - (intOf i).toNat)
 case atStart =>
  refine ⟨0, by omega, rfl, ?_, ?_, rfl, below_new (below_new (Below.refl _ _) (Nat.le_refl _) _) (Nat.le_refl _) _⟩
  ·exact heap_alloc2_old _ _ _
  ·exact heap_alloc2_new _ _ _
 case round =>
  obtain ⟨k, hk, rfl, hB0, hB1, Hok, hbel⟩ := hrel
  have HB0 := Lib.hid hB0
  have HB1 := Lib.hid hB1
  have Hbel := Lib.hid hbel
  clear hB0 hB1 hbel
  by_cases hlt : k < n
  ·obtain ⟨b, o, rfl, hc⟩ := HR.out.2 (by omega)
   have hck := kept_cell Hbel.out (hc k hlt)
   clear hc
   by_cases hx : 0 ≤ rd xs k ∧ rd xs k ≤ 15
   ·obtain ⟨hx0, hx1⟩ := hx
    obtain ⟨m, hm⟩ : ∃ m : Nat, rd xs k = m := ⟨(rd xs k).toNat, by omega⟩
    rw [hm] at hck hx0 hx1
    have Hm := Lib.hid hm
    clear hm
    have hcm := HB1.out.cell (j := m) (by rw [cntTo_length]; omega)
    have hfm := HB1.out.frozen m
    have hrg := rd_cntTo_le xs k m (by omega)
    go_wp2
    go_roundw
    case rel =>
     refine ⟨k + 1, by omega, by go_num, HB0.out.other _ _ (by simp), ?_, ?_, Hbel.out.setCell (by simp) _⟩
     ·rw [cntTo_succ xs k m (by rw [hlen.out]; omega) Hm.out (by omega)]
      exact HB1.out.set _ _
     ·show lensOk _ = true
      rw [List.take_succ_eq_append_getElem (by rw [hlen.out]; omega)]
      have h1 : lensOk (xs.take k) = true := Hok.out
      unfold lensOk at *
      rw [List.all_append, h1, ← rd_getElem (by rw [hlen.out]; omega), Hm.out]
      simp
      omega
    case measure => simp [intOf]; omega
   ·have hno : lensOk xs = false := by
     unfold lensOk
     rw [List.all_eq_false]
     exact ⟨xs[k]'(by rw [hlen.out]; omega), List.getElem_mem _, by rw [← rd_getElem (by rw [hlen.out]; omega)]; simpa using hx⟩
    have hways : rd xs k < 0 ∨ (0 ≤ rd xs k ∧ 15 < rd xs k) := by omega
    clear hx
    have hs : (ints .i64 (cntTo xs k)).toArray.size = 16 := by simp [ints_length, cntTo_length]
    have Hno := Lib.hid hno
    have Hs := Lib.hid hs
    clear hno hs
    rcases hways with h1 | ⟨h1, h2⟩
    all_goals
     go_wp2_with (first
      | (refine wpList_load_row rfl 175 _ rfl (w.heap.size + 1) rfl 175 _ (0, 0) _ HB1.out Tryd.underlying175 rfl (by rw [Hs.out]; kernel_rfl) ?_)
      | (refine wpList_store_row rfl 175 _ _ rfl w.heap.size _ rfl rfl 175 _ HB0.out (by rw [Hs.out]; kernel_rfl) (by rw [Hs.out]; simp [ints]) (ints_one _ _) ?_))
     have hrow := setRow_heap wr w.heap.size _ (ints .i64 (cntTo xs k)).toArray 175 _ HB0.out
     have hl := run_loadVar_row (P := Tryd.prog) _ w.heap.size 175 175 _ _ _ hrow Tryd.underlying175 rfl (by rw [Hs.out]; kernel_rfl)
     refine bodyPost_ret (v := .tuple #[.agg (ints .i64 (cntTo xs k)).toArray, .bool false]) ?_ rfl ⟨cntTo xs k, cntTo_length _ _, by rw [Hno.out], (fun h => absurd h (by rw [Hno.out]; decide)), ?_⟩
     ·simp [results, Tryd.results109, asAddr, hl]
     ·exact Hbel.out.trans ⟨rfl, rfl, rfl, by simp, fun i hi => setRow_other wr w.heap.size i _ (by omega)⟩
  ·obtain rfl : k = n := by omega
   have hs : (ints .i64 ((cntTo xs k).set 0 0)).toArray.size = 16 := by simp [ints_length, cntTo_length]
   have Hs := Lib.hid hs
   have hok : lensOk xs = true := by
    have h1 : lensOk (xs.take k) = true := Hok.out
    rwa [List.take_of_length_le (by rw [hlen.out]; exact Nat.le_refl _)] at h1
   have Hk := Lib.hid hok
   clear hs hok
   have hc0 := HB1.out.cell (j := 0) (by rw [cntTo_length]; omega)
   have hf0 := HB1.out.frozen 0
   have HB1' := Lib.hid (HB1.out.set 0 0)
   have HB0' := Lib.hid (HB0.out.other ⟨w.heap.size + 1, 0, none⟩ (.int .i64 0) (by simp))
   go_wp2_with (first
    | (refine wpList_load_row rfl 175 _ rfl (w.heap.size + 1) rfl 175 _ (0, 0) _ HB1'.out Tryd.underlying175 rfl (by rw [Hs.out]; kernel_rfl) ?_)
    | (refine wpList_store_row rfl 175 _ _ rfl w.heap.size _ rfl rfl 175 _ HB0'.out (by rw [Hs.out]; kernel_rfl) (by rw [Hs.out]; simp [ints]) (ints_one _ _) ?_))
   have hrow := setRow_heap _ w.heap.size _ (ints .i64 ((cntTo xs k).set 0 0)).toArray 175 _ HB0'.out
   have hl := run_loadVar_row (P := Tryd.prog) _ w.heap.size 175 175 _ _ _ hrow Tryd.underlying175 rfl (by rw [Hs.out]; kernel_rfl)
   refine bodyPost_ret (v := .tuple #[.agg (ints .i64 ((cntTo xs k).set 0 0)).toArray, .bool true]) ?_ rfl ⟨(cntTo xs k).set 0 0, by rw [List.length_set, cntTo_length], by rw [Hk.out], fun _ => by unfold cntOf; rw [hlen.out], ?_⟩
   ·simp [results, Tryd.results109, asAddr, hl]
   ·exact (Hbel.out.setCell (by simp) _).trans ⟨rfl, rfl, rfl, by simp, fun i hi => setRow_other _ w.heap.size i _ (by omega)⟩
def leftAt (c : List Int) : Nat → Int
 | 0 => 1
 | i + 1 => 2 * leftAt c i - rd c (i + 1)
def sumAt (c : List Int) : Nat → Int
 | 0 => 0
 | i + 1 => sumAt c i + rd c (i + 1)
def leftOk (c : List Int) (i : Nat) : Bool := (List.range i).all fun j => decide (0 ≤ leftAt c (j + 1))
theorem leftOk_succ (c : List Int) (i : Nat) : leftOk c (i + 1) = (leftOk c i && decide (0 ≤ leftAt c (i + 1))) := by
 simp [leftOk, List.range_succ]
def rightOf (c : List Int) : Bool := leftOk c 15 && (leftAt c 15 == 0 || (sumAt c 15 == 1 && rd c 1 == 1))
def rightB (xs : List Int) : Bool := lensOk xs && rightOf (cntOf xs)

theorem leftOk_no (c : List Int) (i k : Nat) (hk : k < i) (h : leftAt c (k + 1) < 0) : leftOk c i = false := by
 unfold leftOk
 rw [List.all_eq_false]
 exact ⟨k, List.mem_range.2 hk, by simp; omega⟩
theorem rd_cntOf (xs : List Int) (j : Nat) (h : j < 16) : 0 ≤ rd (cntOf xs) j ∧ rd (cntOf xs) j ≤ xs.length := by
 unfold cntOf
 rw [rd_set (by rw [cntTo_length]; omega)]
 split
 ·omega
 ·exact rd_cntTo_le xs xs.length j h
theorem leftAt_le (c : List Int) (hc : ∀ j, j < 16 → 0 ≤ rd c j) (i : Nat) (hi : i < 16) : leftAt c i ≤ 2 ^ i := by
 induction i with
 | zero => simp [leftAt]
 | succ i ih =>
  have h1 := ih (by omega)
  have h2 := hc (i + 1) hi
  simp only [leftAt, Int.pow_succ]
  omega
theorem sumAt_le (c : List Int) (n : Int) (hc : ∀ j, j < 16 → 0 ≤ rd c j ∧ rd c j ≤ n) (i : Nat) (hi : i < 16) : 0 ≤ sumAt c i ∧ sumAt c i ≤ i * n := by
 induction i with
 | zero => simp [sumAt]
 | succ i ih =>
  have h1 := ih (by omega)
  have h2 := hc (i + 1) hi
  simp only [sumAt]
  have e : ((i + 1 : Nat) : Int) * n = i * n + n := by rw [Int.natCast_add, Int.add_mul]; simp
  rw [e]
  omega

set_option maxHeartbeats 1000000 in
set_option maxRecDepth 200000 in
theorem Right_calls (A : Option Addr) (n cap : Nat) (xs : List Int) (w : World) (hR : Rd w .i64 A n xs) (hn : n ≤ 140737488351232) :
  Calls Tryd.prog 120 #[.slice A n cap] w fun e w' => e = .returned (.bool (rightB xs)) ∧ Below w.heap.size w w' := by
 have HR := Lib.hid hR
 have hlen := Lib.hid hR.1
 clear hR
 go_enter Tryd.func120, Tryd.ntmps120
 go_wp2_with fail
 refine (counts_calls A n cap xs _ HR.out hn).mono ?_
 rintro e w1 ⟨l, hl, rfl, hcnt, hb1⟩
 have Hl := Lib.hid hl
 cases hok : lensOk xs
 ·have hrb : rightB xs = false := by unfold rightB; rw [hok]; rfl
  have Hrb := Lib.hid hrb
  have Hb1 := Lib.hid hb1
  clear hl hcnt hb1 hok hrb
  go_wp2_with (first
   | (refine wpList_store_row rfl 175 _ _ rfl w1.heap.size _ rfl rfl 175 _ (heap_alloc_new _ _) (by rw [ints_size, Hl.out]; kernel_rfl) (by rw [ints_size, Hl.out]; rfl) (ints_one _ _) ?_))
  go_ret
  rw [Hrb.out]
  exact ⟨rfl, (below_new Hb1.out (Nat.le_refl _) _).trans ⟨rfl, rfl, rfl, by simp, fun i hi => setRow_other _ w1.heap.size i _ (by have := Hb1.out.size; omega)⟩⟩
 ·obtain rfl := hcnt hok
  have hrb : rightB xs = rightOf (cntOf xs) := by unfold rightB; rw [hok]; rfl
  have hrng := fun j hj => rd_cntOf xs j hj
  rw [hlen.out] at hrng
  generalize cntOf xs = c at *
  have Hrb := Lib.hid hrb
  have Hb1 := Lib.hid hb1
  have Hrng := Lib.hid hrng
  clear hl hcnt hb1 hok hrb hrng
  go_wp2_with (first
   | (refine wpList_store_row rfl 175 _ _ rfl w1.heap.size _ rfl rfl 175 _ (heap_alloc_new _ _) (by rw [ints_size, Hl.out]; kernel_rfl) (by rw [ints_size, Hl.out]; rfl) (ints_one _ _) ?_))
  have HB : Hid (Blk _ w1.heap.size 175 .i64 c) := setRow_heap _ w1.heap.size _ (ints .i64 c).toArray 175 _ (heap_alloc_new w1 (Obj.cells #[.int .i64 0, .int .i64 0, .int .i64 0, .int .i64 0, .int .i64 0, .int .i64 0, .int .i64 0, .int .i64 0, .int .i64 0, .int .i64 0, .int .i64 0, .int .i64 0, .int .i64 0, .int .i64 0, .int .i64 0, .int .i64 0] 175))
  have HW : Hid (Below w.heap.size w (World.setRow (w1.alloc (Obj.cells #[.int .i64 0, .int .i64 0, .int .i64 0, .int .i64 0, .int .i64 0, .int .i64 0, .int .i64 0, .int .i64 0, .int .i64 0, .int .i64 0, .int .i64 0, .int .i64 0, .int .i64 0, .int .i64 0, .int .i64 0, .int .i64 0] 175)) w1.heap.size (ints .i64 c).toArray)) := (below_new Hb1.out (Nat.le_refl _) _).trans ⟨rfl, rfl, rfl, by simp, fun i hi => setRow_other _ w1.heap.size i _ (by have := Hb1.out.size; omega)⟩
  generalize World.setRow (w1.alloc (Obj.cells #[.int .i64 0, .int .i64 0, .int .i64 0, .int .i64 0, .int .i64 0, .int .i64 0, .int .i64 0, .int .i64 0, .int .i64 0, .int .i64 0, .int .i64 0, .int .i64 0, .int .i64 0, .int .i64 0, .int .i64 0, .int .i64 0] 175)) w1.heap.size (ints .i64 c).toArray = W at *
  go_loop [5, 6, 7] (fun l a i => ∃ k : Nat, k ≤ 15 ∧ i = .int .i64 (1 + k) ∧ l = .int .i64 (leftAt c k) ∧ a = .int .i64 (sumAt c k) ∧ Hid (leftOk c k = true) ∧ 0 ≤ leftAt c k) (fun _ _ i => 16 - (intOf i).toNat)
  case atStart => exact ⟨0, by omega, rfl, rfl, rfl, rfl, by show (0 : Int) ≤ 1; omega⟩
  case round =>
   obtain ⟨k, hk, rfl, rfl, rfl, Hok, h0⟩ := hrel
   have hle := leftAt_le c (fun j hj => (Hrng.out j hj).1) k (by omega)
   have hle2 : (2 : Int) ^ k ≤ 2 ^ 15 := by
    have : (2 : Nat) ^ k ≤ 2 ^ 15 := Nat.pow_le_pow_right (by omega) hk
    exact_mod_cast this
   have hle3 : leftAt c k ≤ 32768 := Int.le_trans hle (Int.le_trans hle2 (by decide))
   have hsum := sumAt_le c n Hrng.out k (by omega)
   have hsum2 : sumAt c k ≤ 15 * n := by
    have : (k : Int) * n ≤ 15 * n := Int.mul_le_mul_of_nonneg_right (by omega) (by omega)
    omega
   obtain ⟨hs0, _⟩ := hsum
   clear hle hle2
   by_cases hlt : k < 15
   ·have hcell := HB.out.cell (j := 1 + k) (by rw [Hl.out]; omega)
    have hr := Hrng.out (1 + k) (by omega)
    have el : leftAt c (k + 1) = 2 * leftAt c k - rd c (1 + k) := by rw [Nat.add_comm 1 k]; rfl
    have es : sumAt c (k + 1) = sumAt c k + rd c (1 + k) := by rw [Nat.add_comm 1 k]; rfl
    have El := Lib.hid el
    have Es := Lib.hid es
    clear el es
    go_wp2
    ·go_ret
     have h1 : 2 * leftAt c k - rd c (1 + k) < 0 := by assumption
     rw [← El.out] at h1
     refine ⟨?_, HW.out⟩
     rw [Hrb.out, show rightOf c = false from by unfold rightOf; rw [leftOk_no c 15 k hlt h1]; rfl]
     rfl
    ·go_round
     case rel =>
      have h1 : 0 ≤ 2 * leftAt c k - rd c (1 + k) := by assumption
      refine ⟨k + 1, by omega, by go_num, by rw [El.out], by rw [Es.out], ?_, by rw [El.out]; exact h1⟩
      show leftOk c (k + 1) = true
      have h2 : leftOk c k = true := Hok.out
      rw [leftOk_succ, h2, El.out]
      simpa using h1
     case measure => simp [intOf]; omega
   ·obtain rfl : k = 15 := by omega
    have hcell := HB.out.cell (j := 1) (by rw [Hl.out]; omega)
    have hfin : rightB xs = (leftAt c 15 == 0 || (sumAt c 15 == 1 && rd c 1 == 1)) := by
     have h2 : leftOk c 15 = true := Hok.out
     rw [Hrb.out]; unfold rightOf; rw [h2]; rfl
    have Hfin := Lib.hid hfin
    clear hfin
    rcases Int.lt_trichotomy (leftAt c 15) 0 with g1 | g1 | g1
    ·omega
    ·have g2 : (leftAt c 15 == 0) = true := by simpa using g1
     have G := Lib.hid g1
     clear g1
     go_wp2
     go_ret
     refine ⟨?_, HW.out⟩
     rw [Hfin.out, G.out]
     rfl
    ·have g2 : (leftAt c 15 == 0) = false := by simp; omega
     cases g3 : (sumAt c 15 == 1)
     all_goals
      go_wp2
      go_ret
      refine ⟨?_, HW.out⟩
      rw [Hfin.out, g2, g3]
      rfl
end Go.Proofs.YtendohnkhbgfbaaDoor
namespace Go.Proofs.YtendohnkhbgfbaaDoor
open Go.RowKit

def KeysAt (w : World) : Prop := ∀ j, j < 64 → w.cell? ⟨3, j, none⟩ = some (.int .u32 (wv (keyS j)))
def s8L (s : S8) : List Int := [wv s.a, wv s.b, wv s.c, wv s.d, wv s.e, wv s.f, wv s.g, wv s.h]
theorem s8L_rd (s : S8) {j : Nat} (h : j < 8) : rd (s8L s) j = wv (s.at j) := by
 rcases (show j = 0 ∨ j = 1 ∨ j = 2 ∨ j = 3 ∨ j = 4 ∨ j = 5 ∨ j = 6 ∨ j = 7 by omega) with rfl | rfl | rfl | rfl | rfl | rfl | rfl | rfl <;> rfl
structure HAt (w : World) (h : Nat) (s : S8) (rdy : Bool) (v : Value) (n : Nat) : Prop where
 at' : w.heap[h]? = some (.cells #[.int .u32 (wv s.a), .int .u32 (wv s.b), .int .u32 (wv s.c), .int .u32 (wv s.d), .int .u32 (wv s.e), .int .u32 (wv s.f), .int .u32 (wv s.g), .int .u32 (wv s.h), .bool rdy, v, .int .u64 n] 86 (0, 0))
theorem HAt.lt {w : World} {h : Nat} {s : S8} {rdy : Bool} {v : Value} {n : Nat} (H : HAt w h s rdy v n) : h < w.heap.size := (Array.getElem?_eq_some_iff.1 H.at').1
theorem HAt.cell {w : World} {h : Nat} {s : S8} {rdy : Bool} {v : Value} {n : Nat} (H : HAt w h s rdy v n) {j : Nat} (hj : j < 8) : w.cell? ⟨h, j, none⟩ = some (.int .u32 (wv (s.at j))) := by
 rw [cell_of_row w h j _ _ (0, 0) H.at']
 rcases (show j = 0 ∨ j = 1 ∨ j = 2 ∨ j = 3 ∨ j = 4 ∨ j = 5 ∨ j = 6 ∨ j = 7 by omega) with rfl | rfl | rfl | rfl | rfl | rfl | rfl | rfl <;> rfl
def schTo (b : List Int) (p i : Nat) : List Int := (List.range 64).map fun j => if j < i then wv (sch b p j) else 0
theorem schTo_length (b : List Int) (p i : Nat) : (schTo b p i).length = 64 := by simp [schTo]
theorem schTo_rd (b : List Int) (p i : Nat) {j : Nat} (h : j < 64) : rd (schTo b p i) j = if j < i then wv (sch b p j) else 0 := by
 rw [rd_getElem (by rw [schTo_length]; exact h)]
 simp [schTo]
theorem schTo_low (b : List Int) (p i : Nat) {j : Nat} (h : j < 64) (hi : j < i) : rd (schTo b p i) j = wv (sch b p j) := by
 rw [schTo_rd b p i h, if_pos hi]
theorem schTo_next (b : List Int) (p i : Nat) (h : i < 64) : schTo b p (i + 1) = (schTo b p i).set i (wv (sch b p i)) := by
 apply ext_rd (by rw [List.length_set, schTo_length, schTo_length])
 intro j hj
 rw [schTo_length] at hj
 rw [rd_set (by rw [schTo_length]; exact h), schTo_rd _ _ _ hj, schTo_rd _ _ _ hj]
 by_cases e : i = j
 ·subst e; rw [if_pos rfl, if_pos (by omega)]
 ·rw [if_neg e]
  by_cases g : j < i
  ·rw [if_pos g, if_pos (by omega)]
  ·rw [if_neg g, if_neg (by omega)]
theorem schTo_zero (b : List Int) (p : Nat) : schTo b p 0 = List.replicate 64 0 := by
 apply ext_rd (by rw [schTo_length, List.length_replicate])
 intro j hj
 rw [schTo_length] at hj
 rw [schTo_rd _ _ _ hj, if_neg (by omega)]
 rw [rd_getElem (by rw [List.length_replicate]; exact hj), List.getElem_replicate]
theorem Fr.blk {w w' : World} {S : List (Option Nat)} (h : Fr w w' S) {b : Nat} {T : TypeId} {k : IntKind} {l : List Int} (hB : Blk w b T k l) (hS : some b ∉ S) : Blk w' b T k l := (h.block b hB.lt (fun _ ho e => hS (e ▸ ho))).trans hB
theorem copy_shift (w : World) (gv : Nat) (r : S8) (h : Blk w gv 82 .u32 (s8L r)) :
  (Builtin.copy_ #[65, 65] 3 #[.slice (some ⟨gv, 1, none⟩) 7 7, .slice (some ⟨gv, 0, none⟩) 7 8]).run Tryd.prog w =
   .ok (.int .i64 7) (w.setRow gv (ints .u32 (s8L ⟨r.a, r.a, r.b, r.c, r.d, r.e, r.f, r.g⟩)).toArray) := by
 have e := run_copy_row Tryd.prog w 65 65 3 81 gv 1 7 7 ⟨gv, 0, none⟩ 7 8 (ints .u32 (s8L r)).toArray 82 ((ints .u32 (s8L r)).take 7) Tryd.underlying65 (by kernel_rfl) h rfl ?_ (by simp [ints, s8L]) (by simp [ints, s8L, Value.oneCell'])
 ·exact e
 ·intro j v hv
  have hj : j < 7 := by
   have := (List.getElem?_eq_some_iff.1 hv).1
   simp [ints, s8L] at this
   omega
  rw [List.getElem?_take_of_lt hj, ints_get (by simp [s8L]; omega)] at hv
  cases hv
  rw [addr_add, Nat.zero_add]
  exact h.cell (j := j) (by simp [s8L]; omega)
def plusTo (s r : S8) (k : Nat) : S8 := ⟨if 0 < k then s.a + r.a else s.a, if 1 < k then s.b + r.b else s.b, if 2 < k then s.c + r.c else s.c, if 3 < k then s.d + r.d else s.d, if 4 < k then s.e + r.e else s.e, if 5 < k then s.f + r.f else s.f, if 6 < k then s.g + r.g else s.g, if 7 < k then s.h + r.h else s.h⟩
theorem plusTo_at (s r : S8) {j : Nat} (h : j < 8) (k : Nat) : (plusTo s r k).at j = if j < k then s.at j + r.at j else s.at j := by
 rcases (show j = 0 ∨ j = 1 ∨ j = 2 ∨ j = 3 ∨ j = 4 ∨ j = 5 ∨ j = 6 ∨ j = 7 by omega) with rfl | rfl | rfl | rfl | rfl | rfl | rfl | rfl <;> rfl
theorem plusTo_all (s r : S8) : plusTo s r 8 = s.plus r := rfl
theorem s8_ext {s r : S8} (h : ∀ j, j < 8 → s.at j = r.at j) : s = r := by
 have h0 := h 0 (by omega)
 have h1 := h 1 (by omega)
 have h2 := h 2 (by omega)
 have h3 := h 3 (by omega)
 have h4 := h 4 (by omega)
 have h5 := h 5 (by omega)
 have h6 := h 6 (by omega)
 have h7 := h 7 (by omega)
 cases s
 cases r
 simp only [S8.at] at h0 h1 h2 h3 h4 h5 h6 h7
 rw [h0, h1, h2, h3, h4, h5, h6, h7]
def S8.put (s : S8) (j : Nat) (x : W32) : S8 := match j with
 | 0 => { s with a := x } | 1 => { s with b := x } | 2 => { s with c := x } | 3 => { s with d := x } | 4 => { s with e := x } | 5 => { s with f := x } | 6 => { s with g := x } | _ => { s with h := x }
theorem S8.put_at (s : S8) {j : Nat} (h : j < 8) (x : W32) {i : Nat} (hi : i < 8) : (s.put j x).at i = if i = j then x else s.at i := by
 rcases (show j = 0 ∨ j = 1 ∨ j = 2 ∨ j = 3 ∨ j = 4 ∨ j = 5 ∨ j = 6 ∨ j = 7 by omega) with rfl | rfl | rfl | rfl | rfl | rfl | rfl | rfl <;>
  rcases (show i = 0 ∨ i = 1 ∨ i = 2 ∨ i = 3 ∨ i = 4 ∨ i = 5 ∨ i = 6 ∨ i = 7 by omega) with rfl | rfl | rfl | rfl | rfl | rfl | rfl | rfl <;> rfl
theorem plusTo_next (s r : S8) {k : Nat} (h : k < 8) : plusTo s r (k + 1) = (plusTo s r k).put k (s.at k + r.at k) := by
 refine s8_ext (fun j hj => ?_)
 rw [plusTo_at s r hj, S8.put_at _ h _ hj, plusTo_at s r hj]
 by_cases e : j = k
 ·subst e; rw [if_pos (by omega), if_pos rfl]
 ·rw [if_neg e]
  by_cases g : j < k
  ·rw [if_pos g, if_pos (by omega)]
  ·rw [if_neg g, if_neg (by omega)]
theorem HAt.put {w : World} {h : Nat} {s : S8} {rdy : Bool} {v : Value} {n : Nat} (H : HAt w h s rdy v n) {j : Nat} (hj : j < 8) (x : W32) : HAt (w.setCell ⟨h, j, none⟩ (.int .u32 (wv x))) h (s.put j x) rdy v n := by
 constructor
 rw [heap_setCell_same w h j _ _ _ H.at']
 rcases (show j = 0 ∨ j = 1 ∨ j = 2 ∨ j = 3 ∨ j = 4 ∨ j = 5 ∨ j = 6 ∨ j = 7 by omega) with rfl | rfl | rfl | rfl | rfl | rfl | rfl | rfl <;> rfl
theorem run_index8 (R : S8) {k : Nat} (hk : k < 8) (w : World) : (Instr.index 82 (.agg (ints .u32 (s8L R)).toArray) (.int .i64 (k : Int))).run Tryd.prog w = .ok (.int .u32 (wv (R.at k))) w := by
 rcases (show k = 0 ∨ k = 1 ∨ k = 2 ∨ k = 3 ∨ k = 4 ∨ k = 5 ∨ k = 6 ∨ k = 7 by omega) with rfl | rfl | rfl | rfl | rfl | rfl | rfl | rfl <;> kernel_rfl
set_option maxHeartbeats 1000000 in set_option maxRecDepth 100000 in
theorem block_calls (h : Nat) (s : S8) (rdy : Bool) (v : Value) (nn : Nat) (A : Option Addr) (n c : Nat) (b : List Int) (w : World) (hH : HAt w h s rdy v nn) (hR : Rd w .u8 A n b) (hb : ∀ j, j < n → 0 ≤ rd b j ∧ rd b j ≤ 255) (hn : 64 ≤ n) (hK : KeysAt w) :
  Calls Tryd.prog 78 #[.pointer (some ⟨h, 0, none⟩), .slice A n c] w fun e w' => e = .returned (.tuple #[]) ∧ HAt w' h (blockS8 b 0 s) rdy v nn ∧ Fr w w' [some h] := by
 have HH := Lib.hid hH
 have HR := Lib.hid hR
 have Hb := Lib.hid hb
 have HK := Lib.hid hK
 obtain ⟨g0, o0, rfl, hc0⟩ := hR.2 (by omega)
 have Hc0 := Lib.hid hc0
 clear hH hR hb hK hc0
 go_enter Tryd.func78, Tryd.ntmps78
 go_upto_region 1 with fail
 obtain ⟨g, hg⟩ : ∃ g, g = w.heap.size := ⟨_, rfl⟩
 obtain ⟨w1, hw1⟩ : ∃ W, W = w.alloc (.cells (ints .u32 (schTo b 0 0)).toArray 174) := ⟨_, rfl⟩
 have hB1 : Blk w1 g 174 .u32 (schTo b 0 0) := by rw [hw1, hg]; exact heap_alloc_new w _
 have hF1 : Fr w w1 [] := by rw [hw1]; exact (Fr.refl w []).alloc _
 have hz1 : w1.heap.size = g + 1 := by rw [hw1, hg]; simp
 rw [schTo_zero] at hw1
 simp only [ints, List.replicate, List.map] at hw1
 rw [← hw1, ← hg]
 have HB1 := Lib.hid hB1
 have HF1 := Lib.hid hF1
 have HG := Lib.hid hg
 clear hB1 hF1 hw1 hg
 go_wp2
 go_loopw [21] (fun i wr => ∃ k : Nat, k ≤ 16 ∧ i = .int .i64 k ∧ Hid (Blk wr g 174 .u32 (schTo b 0 k)) ∧ Hid (Fr w1 wr [some g])) (fun i _ => 16 - (intOf i).toNat)
 case atStart => exact ⟨0, by omega, rfl, HB1, Lib.hid (Fr.refl _ _)⟩
 case round =>
  obtain ⟨k, hk, rfl, HBk, HFk⟩ := hrel
  obtain ⟨W2, hW2⟩ : ∃ W, W = wr := ⟨_, rfl⟩
  subst hW2
  have hbw : Below w.heap.size w W2 := (HF1.out.trans HFk.out (fun o ho => .inr (fun j e => by simp at ho; subst ho; cases e; exact Nat.le_of_eq HG.out.symm))).below (Nat.le_refl _) (fun o ho => by cases ho)
  have HBW := Lib.hid hbw
  clear hbw
  by_cases hlt : k < 16
  ·skip
   as_aux_lemma =>
    have hr2 := HR.out.below HBW.out
    obtain ⟨_, _, e3, hc2⟩ := hr2.2 (by omega)
    cases e3
    have y0 := Hb.out (4 * k) (by omega)
    have y1 := Hb.out (4 * k + 1) (by omega)
    have y2 := Hb.out (4 * k + 2) (by omega)
    have y3 := Hb.out (4 * k + 3) (by omega)
    have z0 := hc2 (4 * k) (by omega)
    have z1 := hc2 (4 * k + 1) (by omega)
    have z2 := hc2 (4 * k + 2) (by omega)
    have z3 := hc2 (4 * k + 3) (by omega)
    have hbe : Hid (sch b 0 k = be4 b (4 * k)) := by rw [sch_low hlt, Nat.zero_add]; exact Lib.hid rfl
    unfold be4 at hbe
    obtain ⟨x0, hx0⟩ : ∃ x, x = rd b (4 * k) := ⟨_, rfl⟩
    obtain ⟨x1, hx1⟩ : ∃ x, x = rd b (4 * k + 1) := ⟨_, rfl⟩
    obtain ⟨x2, hx2⟩ : ∃ x, x = rd b (4 * k + 2) := ⟨_, rfl⟩
    obtain ⟨x3, hx3⟩ : ∃ x, x = rd b (4 * k + 3) := ⟨_, rfl⟩
    rw [← hx0] at y0 z0 hbe
    rw [← hx1] at y1 z1 hbe
    rw [← hx2] at y2 z2 hbe
    rw [← hx3] at y3 z3 hbe
    have hcl := HBk.out.cell (j := k) (by rw [schTo_length]; omega)
    have hfz := HBk.out.frozen k
    have hHb := hbe
    clear hr2 hc2 hbe hx0 hx1 hx2 hx3
    go_wp2
    go_region
    rw [word_or y0 y1 y2 y3, ← hHb.out]
    go_wp2
    go_roundw
    case rel =>
     refine ⟨k + 1, by omega, by go_num, ?_, Lib.hid (HFk.out.set _ _ (.inl (by simp))).drew⟩
     rw [schTo_next b 0 k (by omega)]
     exact Lib.hid (HBk.out.set _ _)
    case measure => simp [intOf]; omega
  ·obtain rfl : k = 16 := by omega
   go_wp2
   clear hz1 HB1
   as_aux_lemma =>
    go_loopw [6] (fun i wr => ∃ k : Nat, 16 ≤ k ∧ k ≤ 64 ∧ i = .int .i64 k ∧ Hid (Blk wr g 174 .u32 (schTo b 0 k)) ∧ Hid (Fr w1 wr [some g])) (fun i _ => 64 - (intOf i).toNat)
    case atStart => exact ⟨16, by omega, by omega, rfl, HBk, HFk⟩
    case round =>
     obtain ⟨j, hj16, hj, rfl, HBj, HFj⟩ := hrel
     obtain ⟨W3, hW3⟩ : ∃ W, W = wr := ⟨_, rfl⟩
     subst hW3
     by_cases hlt2 : j < 64
     ·skip
      as_aux_lemma =>
       have z15 := HBj.out.cell (j := j - 15) (by rw [schTo_length]; omega)
       have z2 := HBj.out.cell (j := j - 2) (by rw [schTo_length]; omega)
       have z16 := HBj.out.cell (j := j - 16) (by rw [schTo_length]; omega)
       have z7 := HBj.out.cell (j := j - 7) (by rw [schTo_length]; omega)
       rw [schTo_low b 0 j (by omega) (by omega)] at z15 z2 z16 z7
       have hcl := HBj.out.cell (j := j) (by rw [schTo_length]; omega)
       have hfz := HBj.out.frozen j
       have hsc := Lib.hid (sch_high (b := b) (p := 0) (j := j) (by omega))
       obtain ⟨x15, hx15⟩ : ∃ x, x = sch b 0 (j - 15) := ⟨_, rfl⟩
       obtain ⟨x2, hx2⟩ : ∃ x, x = sch b 0 (j - 2) := ⟨_, rfl⟩
       obtain ⟨x16, hx16⟩ : ∃ x, x = sch b 0 (j - 16) := ⟨_, rfl⟩
       obtain ⟨x7, hx7⟩ : ∃ x, x = sch b 0 (j - 7) := ⟨_, rfl⟩
       rw [← hx15, ← hx2, ← hx16, ← hx7] at hsc
       rw [← hx15] at z15
       rw [← hx2] at z2
       rw [← hx16] at z16
       rw [← hx7] at z7
       clear hx15 hx2 hx16 hx7
       go_wp2
       go_region
       go_wp2_with fail
       refine (Rots_calls x15 7 _ (by decide) rfl _).mono ?_
       rintro e w4 ⟨rfl, rfl⟩
       go_wp2_with fail
       refine (Rots_calls x15 18 _ (by decide) rfl _).mono ?_
       rintro e w4 ⟨rfl, rfl⟩
       go_wp2_with fail
       refine (Rots_calls x2 17 _ (by decide) rfl _).mono ?_
       rintro e w4 ⟨rfl, rfl⟩
       go_wp2_with fail
       refine (Rots_calls x2 19 _ (by decide) rfl _).mono ?_
       rintro e w4 ⟨rfl, rfl⟩
       go_wp2
       rw [wv_xor (rotr x15 7) (rotr x15 18), wv_shr3, wv_xor _ (x15 >>> 3), wv_xor (rotr x2 17) (rotr x2 19), wv_shr10, wv_xor _ (x2 >>> 10)]
       go_region
       rw [wv_add4]
       go_wp2
       go_roundw
       case rel =>
        refine ⟨_, _, _, _, _, _, _, _, _, _, _, _, _, _, _, _, _, _, _, _, _, _, _, _, _, _, _, _, _, _, _, _, _, _, _, _, _, _, _, _, _, _, _, _, _, _, _, _, ⟨j + 1, by omega, by omega, ?_, ?_, ?_⟩, rfl⟩
        ·go_num
        rotate_left
        ·exact Lib.hid (HFj.out.set _ _ (.inl (by simp))).drew.drew
        rw [schTo_next b 0 j (by omega), hsc.out]
        exact Lib.hid (HBj.out.set _ _)
       case measure => simp [intOf]; omega
     ·obtain rfl : j = 64 := by omega
      clear HBk HFk HBW
      have hf3 : Fr w W3 [] := HF1.out.trans HFj.out (fun o ho => .inr (fun i e => by simp at ho; subst ho; cases e; exact Nat.le_of_eq HG.out.symm))
      have hb3 : Below w.heap.size w W3 := hf3.below (Nat.le_refl _) (fun o ho => by cases ho)
      have hH3 : HAt W3 h s rdy v nn := ⟨(hb3.block h HH.out.lt).trans HH.out.at'⟩
      have q0 := hH3.cell (j := 0) (by omega)
      have q1 := hH3.cell (j := 1) (by omega)
      have q2 := hH3.cell (j := 2) (by omega)
      have q3 := hH3.cell (j := 3) (by omega)
      have q4 := hH3.cell (j := 4) (by omega)
      have q5 := hH3.cell (j := 5) (by omega)
      have q6 := hH3.cell (j := 6) (by omega)
      have q7 := hH3.cell (j := 7) (by omega)
      have HF3 := Lib.hid hf3
      have HB3 := Lib.hid hb3
      have HH3 := Lib.hid hH3
      have hs3 := hb3.size
      clear hf3 hb3 hH3
      go_wp2
      obtain ⟨gv, hgv⟩ : ∃ gv, gv = W3.heap.size := ⟨_, rfl⟩
      obtain ⟨w4, hw4⟩ : ∃ W, W = W3.alloc (.cells (ints .u32 (s8L s)).toArray 82) := ⟨_, rfl⟩
      have hB4 : Blk w4 gv 82 .u32 (s8L s) := by rw [hw4, hgv]; exact heap_alloc_new W3 _
      have hF4 : Fr W3 w4 [] := by rw [hw4]; exact (Fr.refl W3 []).alloc _
      have hBj4 : Blk w4 g 174 .u32 (schTo b 0 64) := by rw [hw4]; exact HBj.out.alloc _
      have hgg : g < gv := by rw [hgv]; exact HBj.out.lt
      have hwgv : w.heap.size ≤ gv := by rw [hgv]; exact hs3
      simp only [ints, s8L, List.map] at hw4
      simp only [S8.at]
      rw [← hw4, ← hgv]
      have HB4 := Lib.hid hB4
      have HF4 := Lib.hid hF4
      have HBj4 := Lib.hid hBj4
      have HGV := Lib.hid hgv
      clear hB4 hF4 hBj4 hw4 hgv q0 q1 q2 q3 q4 q5 q6 q7 hs3
      as_aux_lemma =>
       go_loopw [107] (fun i wr => ∃ k : Nat, k ≤ 64 ∧ i = .int .i64 k ∧ Hid (Blk wr gv 82 .u32 (s8L (roundsS b 0 s k))) ∧ Hid (Fr w4 wr [some gv])) (fun i _ => 64 - (intOf i).toNat)
       case atStart => exact ⟨0, by omega, rfl, HB4, Lib.hid (Fr.refl _ _)⟩
       case round =>
        obtain ⟨i, hi, rfl, HBi, HFi⟩ := hrel
        obtain ⟨W5, hW5⟩ : ∃ W, W = wr := ⟨_, rfl⟩
        subst hW5
        by_cases hlt3 : i < 64
        ·skip
         as_aux_lemma =>
          obtain ⟨r, hr⟩ : ∃ r, r = roundsS b 0 s i := ⟨_, rfl⟩
          have HR5 : Hid (roundsS b 0 s (i + 1) = roundS r (keyS i) (sch b 0 i)) := by rw [hr]; exact Lib.hid rfl
          rw [← hr] at HBi
          have v0 := HBi.out.cell (j := 0) (by simp [s8L])
          have v1 := HBi.out.cell (j := 1) (by simp [s8L])
          have v2 := HBi.out.cell (j := 2) (by simp [s8L])
          have v3 := HBi.out.cell (j := 3) (by simp [s8L])
          have v4 := HBi.out.cell (j := 4) (by simp [s8L])
          have v5 := HBi.out.cell (j := 5) (by simp [s8L])
          have v6 := HBi.out.cell (j := 6) (by simp [s8L])
          have v7 := HBi.out.cell (j := 7) (by simp [s8L])
          rw [s8L_rd r (by omega)] at v0 v1 v2 v3 v4 v5 v6 v7
          simp only [S8.at] at v0 v1 v2 v3 v4 v5 v6 v7
          have hfr := HBi.out.frozen
          have hBj5 : Blk W5 g 174 .u32 (schTo b 0 64) := HFi.out.blk HBj4.out (by simp; omega)
          have zw := hBj5.cell (j := i) (by rw [schTo_length]; omega)
          rw [schTo_low b 0 64 hlt3 hlt3] at zw
          have hk5 := kept_cell (HB3.out.trans ((HF4.out.trans HFi.out (fun o ho => .inr (fun j e => by simp at ho; subst ho; cases e; exact Nat.le_of_eq HGV.out.symm))).below HB3.out.size (fun o ho => by cases ho))) (HK.out i hlt3)
          obtain ⟨kk, hkk⟩ : ∃ x, x = keyS i := ⟨_, rfl⟩
          obtain ⟨ww, hww⟩ : ∃ x, x = sch b 0 i := ⟨_, rfl⟩
          rw [← hkk, ← hww] at HR5
          rw [← hkk] at hk5
          rw [← hww] at zw
          clear hr hBj5 hkk hww
          obtain ⟨ra, hra⟩ : ∃ x, x = r.a := ⟨_, rfl⟩
          obtain ⟨re, hre⟩ : ∃ x, x = r.e := ⟨_, rfl⟩
          rw [← hra] at v0
          rw [← hre] at v4
          have HRA := Lib.hid hra
          have HRE := Lib.hid hre
          clear hra hre
          go_wp2
          go_region
          go_wp2_with fail
          refine (Rots_calls re 6 _ (by decide) rfl _).mono ?_
          rintro e w6 ⟨rfl, rfl⟩
          go_wp2_with fail
          refine (Rots_calls re 11 _ (by decide) rfl _).mono ?_
          rintro e w6 ⟨rfl, rfl⟩
          go_wp2_with fail
          refine (Rots_calls re 25 _ (by decide) rfl _).mono ?_
          rintro e w6 ⟨rfl, rfl⟩
          go_wp2
          rw [wv_xor (rotr re 6) (rotr re 11), wv_xor _ (rotr re 25)]
          go_region
          rw [wv_notx, wv_and re r.f, wv_and (~~~re) r.g, wv_xor (re &&& r.f), wv_add4, wv_addM]
          as_aux_lemma =>
           obtain ⟨t, ht⟩ : ∃ t, t = r.h + (rotr re 6 ^^^ rotr re 11 ^^^ rotr re 25) + (re &&& r.f ^^^ ~~~re &&& r.g) + kk + ww := ⟨_, rfl⟩
           have hT : tS r kk ww = t := by rw [ht, HRE.out]; rfl
           rw [← ht]
           clear ht
           have HT := Lib.hid hT
           clear hT
           go_wp2_with fail
           refine (Rots_calls ra 2 _ (by decide) rfl _).mono ?_
           rintro e w6 ⟨rfl, rfl⟩
           go_wp2_with fail
           refine (Rots_calls ra 13 _ (by decide) rfl _).mono ?_
           rintro e w6 ⟨rfl, rfl⟩
           go_wp2_with fail
           refine (Rots_calls ra 22 _ (by decide) rfl _).mono ?_
           rintro e w6 ⟨rfl, rfl⟩
           go_upto_region 22 with fail
           rw [wv_xor (rotr ra 2) (rotr ra 13), wv_xor _ (rotr ra 22), wv_and ra r.b, wv_and ra r.c, wv_and r.b r.c, wv_xor (ra &&& r.b), wv_xor _ (r.b &&& r.c), wv_addM]
           as_aux_lemma =>
            obtain ⟨u, hu⟩ : ∃ u, u = (rotr ra 2 ^^^ rotr ra 13 ^^^ rotr ra 22) + (ra &&& r.b ^^^ ra &&& r.c ^^^ r.b &&& r.c) := ⟨_, rfl⟩
            have hU : uS r = u := by rw [hu, HRA.out]; rfl
            rw [← hu]
            clear hu
            have HU := Lib.hid hU
            clear hU
            obtain ⟨W6, hW6⟩ : ∃ W, W = W5.drew.drew := ⟨_, rfl⟩
            rw [← hW6]
            have hB6 : Blk W6 gv 82 .u32 (s8L r) := by rw [hW6]; exact HBi.out
            have hF6 : Fr w4 W6 [some gv] := by rw [hW6]; exact HFi.out.drew.drew
            have hcp := copy_shift W6.drew gv r hB6
            have HB6 := Lib.hid hB6
            have HF6 := Lib.hid hF6
            clear hW6 hB6 hF6 v0 v1 v2 v3 v4 v5 v6 v7 hfr zw hk5
            go_region
            as_aux_lemma =>
             obtain ⟨q, hq⟩ : ∃ q : S8, q = ⟨r.a, r.a, r.b, r.c, r.d, r.e, r.f, r.g⟩ := ⟨_, rfl⟩
             rw [← hq]
             obtain ⟨W7, hW7⟩ : ∃ W, W = W6.drew.setRow gv (ints .u32 (s8L q)).toArray := ⟨_, rfl⟩
             have hB7 : Blk W7 gv 82 .u32 (s8L q) := by rw [hW7]; exact setRow_heap _ gv _ _ _ _ HB6.out
             have hF7 : Fr w4 W7 [some gv] := by
              rw [hW7]
              exact ⟨HF6.out.os, HF6.out.tape, HF6.out.output, by simpa using HF6.out.size, fun k hk hS => (setRow_other _ gv k _ (fun e => hS (some gv) (by simp) (by rw [e]))).trans (HF6.out.block k hk hS)⟩
             rw [← hW7]
             have HB7 := Lib.hid hB7
             have HF7 := Lib.hid hF7
             have v0 := hB7.cell (j := 0) (by simp [s8L])
             have v4 := hB7.cell (j := 4) (by simp [s8L])
             rw [s8L_rd q (by omega)] at v0 v4
             have HQ := Lib.hid hq
             have hqd : q.at 4 = r.d := by rw [hq]; rfl
             rw [hqd] at v4
             have f0 := hB7.frozen 0
             have f4 := hB7.frozen 4
             clear hB7 hF7 hW7 hq hqd hcp
             go_wp2
             rw [wv_addM, wv_addM]
             go_roundw
             case rel =>
              refine ⟨_, _, _, _, _, _, _, _, _, _, _, _, _, _, _, _, _, _, _, _, _, _, _, _, _, _, _, _, _, _, _, _, _, _, _, _, _, _, _, _, _, _, _, _, _, _, _, _, _, _, _, _, _, _, _, _, _, _, _, _, _, _, _, _, _, _, _, _, _, _, _, _, _, _, _, _, _, _, _, _, _, _, _, ⟨i + 1, by omega, ?_, ?_, ?_⟩, rfl⟩
              ·go_num
              rotate_left
              ·exact Lib.hid ((HF7.out.set _ _ (.inl (by simp))).set _ _ (.inl (by simp)))
              have h9 := (HB7.out.set 4 (wv (r.d + t))).set 0 (wv (t + u))
              have e9 : ((s8L q).set 4 (wv (r.d + t))).set 0 (wv (t + u)) = s8L (roundsS b 0 s (i + 1)) := by
               rw [HR5.out, HQ.out]
               unfold roundS
               rw [HT.out, HU.out]
               rfl
              rw [e9] at h9
              exact Lib.hid h9
             case measure => simp [intOf]; omega
        ·obtain rfl : i = 64 := by omega
         obtain ⟨R, hR⟩ : ∃ R, R = roundsS b 0 s 64 := ⟨_, rfl⟩
         have HRR := Lib.hid hR
         rw [← hR] at HBi
         have hs : (ints .u32 (s8L R)).toArray.size = 8 := by simp [ints, s8L]
         have Hs := Lib.hid hs
         have hf5 : Fr w W5 [] := HF3.out.trans (HF4.out.trans HFi.out (fun o ho => .inr (fun j e => by simp at ho; subst ho; cases e; exact Nat.le_of_eq HGV.out.symm))) (fun o ho => .inl ho)
         have hH5 : HAt W5 h s rdy v nn := ⟨((hf5.below (Nat.le_refl _) (fun o ho => by cases ho)).block h HH.out.lt).trans HH.out.at'⟩
         have HF5 := Lib.hid (hf5.mono (T := [some h]) (fun o ho => by cases ho))
         have HH5 := Lib.hid hH5
         have hhg : h < w.heap.size := HH.out.lt
         clear hR hs hf5 hH5
         as_aux_lemma =>
          go_wp2_with (refine wpList_load_row rfl 82 _ rfl gv rfl 82 _ (0, 0) _ HBi.out Tryd.underlying82 rfl (by rw [Hs.out]; kernel_rfl) ?_)
          go_loopw [184] (fun i wr => ∃ k : Nat, k ≤ 8 ∧ i = .int .i64 k ∧ Hid (HAt wr h (plusTo s R k) rdy v nn) ∧ Hid (Fr W5 wr [some h])) (fun i _ => 8 - (intOf i).toNat)
          case atStart => exact ⟨0, by omega, rfl, HH5, Lib.hid (Fr.refl _ _)⟩
          case round =>
           obtain ⟨k, hk, rfl, HHk, HFk⟩ := hrel
           obtain ⟨W8, hW8⟩ : ∃ W, W = wr := ⟨_, rfl⟩
           subst hW8
           by_cases hlt4 : k < 8
           ·have hix := run_index8 R hlt4
            have z0 := HHk.out.cell hlt4
            rw [plusTo_at s R hlt4, if_neg (Nat.lt_irrefl k)] at z0
            have f0 := frozen_of_row W8 h k _ _ HHk.out.at'
            go_wp2
            go_region
            rw [wv_addM]
            go_wp2
            go_roundw
            case rel =>
             refine ⟨k + 1, by omega, by go_num, ?_, Lib.hid (HFk.out.set _ _ (.inl (by simp))).drew⟩
             rw [plusTo_next s R hlt4]
             have h9 := HHk.out.put hlt4 (s.at k + R.at k)
             exact Lib.hid ⟨h9.at'⟩
            case measure => simp [intOf]; omega
           ·obtain rfl : k = 8 := by omega
            go_wp2
            go_end0
            refine ⟨rfl, ?_, ?_⟩
            ·rw [plusTo_all, HRR.out] at HHk
             exact HHk.out
            ·exact HF5.out.trans HFk.out (fun o ho => .inl ho)
end Go.Proofs.YtendohnkhbgfbaaDoor
namespace Go.Proofs.YtendohnkhbgfbaaDoor
open Go.RowKit

theorem step_appRd {P : Program} {w : World} {ops : Array Oper} {o : Oper} {a : Act} {K : Act → World → Prop} {Q : Exit → Act → World → Prop} {E : Prop} (hgd : o.guard = none) (s x : Operand) {t : TypeId}
  (ho : o.op = .call { callee := .builtin .append, args := #[s, x], argTypes := #[t, t] })
  {base : Nat} {e : TypeId} {k : IntKind} {bytes : Nat} (El : ElT P t e (.int k 0) 1 bytes) {v : Value} {n : Nat} {ys : List Int} (hown : w.ownsRow base e 1 v n (ints k ys)) (hs : a.eval s = v)
  {A : Option Addr} {m c : Nat} {zs : List Int} (hx : a.eval x = .slice A m c) (hR : Rd w k A m zs) (hA : A = none → m = 0 ∧ c = 0) (hbytes : (n + m) * bytes ≤ 140737488355328) (hbase : base ≤ w.heap.size)
  (h : ∀ v' w', w'.ownsRow base e 1 v' (n + m) (ints k (ys ++ zs)) → w.grownBy w' v.ownBlock → K (a.put o.dst v') w') : if Region.wanted o (yielded ops a.tmps) = true then Oper.wp P o a w K Q else E := by
 have hw : Region.wanted o (yielded ops a.tmps) = true := by simp [Region.wanted, hgd]
 rw [if_pos hw]
 obtain ⟨i0, hi, hz0, hz1, hz2⟩ := info_parts El.info
 have hn : n + m ≤ maxLen := by
  have := Nat.mul_le_mul_left (n + m) El.bpos
  unfold maxLen
  omega
 have hl := hR.1
 cases A with
 | none =>
  obtain ⟨rfl, rfl⟩ := hA rfl
  have hz : zs = [] := List.length_eq_zero_iff.1 hl
  subst hz
  have hrun := run_append_owned_none (P := P) (w := w) base t o.type e i0 1 El.und hi v n _ hown
  have h9 := h v w (by simpa using hown) ⟨rfl, rfl, rfl, Nat.le_refl _, fun _ _ _ => rfl⟩
  unfold Oper.wp
  simp [execOp, ho, resolve, invoke, builtin, hs, hx, hrun, Result.andThen]
  exact h9
 | some ad =>
  refine wp_append_own _ s x t ho base e i0 (.int k 0) 1 bytes El.und hi hz0 hz1 hz2 El.zs El.pos v n _ hs hown ad m c (ints k zs) hx (by rw [ints_length]; omega) ?_ (fun u hu => ?_) hn hbytes hbase ?_
  ·intro j u hu
   have hj : j < zs.length := by
    have := (List.getElem?_eq_some_iff.1 hu).1
    rwa [ints_length] at this
   obtain ⟨b, o', e', hc⟩ := hR.2 (by omega)
   cases e'
   rw [ints_get hj] at hu
   cases hu
   rw [addr_add]
   exact hc j (by omega)
  ·obtain ⟨q, _, rfl⟩ := List.mem_map.1 hu
   rfl
  ·intro v' w' h1 h2 _
   exact h v' w' (by rw [ints_append]; exact h1) h2
end Go.Proofs.YtendohnkhbgfbaaDoor
namespace Go.Proofs.YtendohnkhbgfbaaDoor
open Go.RowKit

theorem rd_appL {a b : List Int} {i : Nat} (h : i < a.length) : rd (a ++ b) i = rd a i := by
 unfold rd
 rw [List.getD_eq_getElem?_getD, List.getD_eq_getElem?_getD, List.getElem?_append_left h]
theorem rd_appR {a b : List Int} (i : Nat) : rd (a ++ b) (a.length + i) = rd b i := by
 unfold rd
 rw [List.getD_eq_getElem?_getD, List.getD_eq_getElem?_getD, List.getElem?_append_right (Nat.le_add_right _ _), Nat.add_sub_cancel_left]
theorem own_none {w : World} {base n c : Nat} {e : TypeId} {size : Nat} {A : Option Addr} {xs : List Value} (h : w.ownsRow base e size (.slice A n c) n xs) : A = none → n = 0 ∧ c = 0 := by
 intro hA
 subst hA
 rcases h.2 with ⟨h1, h2⟩ | ⟨g, cap, cur, h1, _⟩
 ·simp at h1
  exact ⟨h2, h1.2⟩
 ·cases h1
theorem Rd.apart {w0 w w1 : World} {k : IntKind} {A : Option Addr} {n : Nat} {xs : List Int} (h0 : Rd w0 k A n xs) (h : Rd w k A n xs) {r : Nat} (hg : w.grownBy w1 (some r)) (hr : w0.heap.size ≤ r) : Rd w1 k A n xs :=
 ⟨h.1, fun hn => by
  obtain ⟨b, o, e, hc⟩ := h.2 hn
  obtain ⟨b', o', e', hc'⟩ := h0.2 hn
  rw [e] at e'
  cases e'
  have hlt := World.block_lt_of_cell? _ _ (hc' 0 hn)
  exact ⟨b, o, e, fun j hj => hg.cell (hc j hj) (by simp at hlt ⊢; omega)⟩⟩
end Go.Proofs.YtendohnkhbgfbaaDoor
