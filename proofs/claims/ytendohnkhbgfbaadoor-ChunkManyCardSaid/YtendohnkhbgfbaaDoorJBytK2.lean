/-
  Texts joined into one file: HuffP, HuffC, HuffD, HuffQ, HuffN, BitsP.
-/
import Derived.Test.YtendohnkhbgfbaaDoorJBytK1
import Derived.IntWalk
import Derived.OneCell
import Derived.BigQuiet
import Derived.Deep.RegionWith
import Derived.Deep.Cut
import Derived.Deep.CutRange
import Derived.Deep.CutBlock
import Derived.BigRegion
import Derived.WalkSmall
import Derived.Laws.Bits64b
/-
  Plain facts about canonical codes (no program): first codes, codes, what is left.
-/
namespace Go.Proofs.YtendohnkhbgfbaaDoor

/-- The first code of a length. -/
def firstAt (c : List Int) : Nat → Int
  | 0 => 0
  | k + 1 => 2 * (firstAt c k + rd c k)
theorem firstAt_range (c : List Int) (n : Int) (hc : ∀ j, j < 16 → 0 ≤ rd c j ∧ rd c j ≤ n) (k : Nat) (hk : k ≤ 16) : 0 ≤ firstAt c k ∧ firstAt c k + 2 * n ≤ 2 * n * 2 ^ k := by
  induction k with
  | zero => simp [firstAt]
  | succ k ih =>
    have h1 := ih (by omega)
    have h2 := hc k (by omega)
    have e : 2 * n * 2 ^ (k + 1) = 2 * (2 * n * 2 ^ k) := by rw [Int.pow_succ, ← Int.mul_assoc, Int.mul_comm _ 2]
    rw [e]
    simp only [firstAt]
    omega
theorem firstAt_le (c : List Int) (n : Int) (hn : 0 ≤ n) (hc : ∀ j, j < 16 → 0 ≤ rd c j ∧ rd c j ≤ n) (k : Nat) (hk : k ≤ 16) : 0 ≤ firstAt c k ∧ firstAt c k ≤ 131072 * n := by
  have h1 := firstAt_range c n hc k hk
  have h2 : 2 * n * 2 ^ k ≤ 2 * n * 2 ^ 16 := by
    refine Int.mul_le_mul_of_nonneg_left ?_ (by omega)
    have : (2 : Nat) ^ k ≤ 2 ^ 16 := Nat.pow_le_pow_right (by omega) hk
    exact_mod_cast this
  have h3 : 2 * n * 2 ^ 16 = 131072 * n := by
    rw [show ((2 : Int) ^ 16) = 65536 from by decide +kernel]
    omega
  omega
def firstsOf (c : List Int) : List Int := (List.range 16).map (firstAt c)
theorem firstsOf_length (c : List Int) : (firstsOf c).length = 16 := by simp [firstsOf]
theorem rd_firstsOf (c : List Int) (j : Nat) (h : j < 16) : rd (firstsOf c) j = firstAt c j := by
  rw [rd_getElem (by rw [firstsOf_length]; exact h)]
  simp [firstsOf]
/-- How many of the first s have that length. -/
def before (xs : List Int) (k : Int) (s : Nat) : Nat := ((xs.take s).filter fun x => x == k).length
theorem before_zero (xs : List Int) (k : Int) : before xs k 0 = 0 := by simp [before]
theorem before_hit (xs : List Int) (k : Int) (s : Nat) (hs : s < xs.length) (h : rd xs s = k) : before xs k (s + 1) = before xs k s + 1 := by
  unfold before
  rw [List.take_succ_eq_append_getElem hs, ← rd_getElem hs, List.filter_append, h]
  simp
theorem before_miss (xs : List Int) (k : Int) (s : Nat) (hs : s < xs.length) (h : rd xs s ≠ k) : before xs k (s + 1) = before xs k s := by
  unfold before
  rw [List.take_succ_eq_append_getElem hs, ← rd_getElem hs, List.filter_append]
  have : (rd xs s == k) = false := by simpa using h
  simp [this]
theorem before_le (xs : List Int) (k : Int) (s : Nat) : before xs k s ≤ s := by
  have h1 := List.length_filter_le (fun x => x == k) (xs.take s)
  have h2 := List.length_take_le s xs
  unfold before
  omega
theorem rd_cntOf_pos (xs : List Int) (k : Nat) (h : 0 < k) (h2 : k < 16) : rd (cntOf xs) k = (before xs k xs.length : Nat) := by
  unfold cntOf
  rw [rd_set (by rw [cntTo_length]; omega), if_neg (by omega), rd_cntTo _ _ _ h2]
  rfl
theorem rd_cntOf_zero (xs : List Int) : rd (cntOf xs) 0 = 0 := by
  unfold cntOf
  rw [rd_set (by rw [cntTo_length]; omega), if_pos rfl]
/-- The next code of length k behind the first s symbols. -/
def nextCode (xs : List Int) (k s : Nat) : Int := firstAt (cntOf xs) k + (before xs k s : Nat)
theorem nextCode_over (xs : List Int) (k : Nat) (h : 0 < k) (h2 : k < 16) : nextCode xs (k + 1) 0 = 2 * nextCode xs k xs.length := by
  unfold nextCode
  rw [before_zero]
  simp only [firstAt]
  rw [rd_cntOf_pos xs k h h2]
  omega
theorem nextCode_one (xs : List Int) : nextCode xs 1 0 = 0 := by
  unfold nextCode
  rw [before_zero]
  simp only [firstAt]
  rw [rd_cntOf_zero]
  rfl
theorem nextCode_range (xs : List Int) (k s : Nat) (hk : k ≤ 16) : 0 ≤ nextCode xs k s ∧ nextCode xs k s ≤ 131072 * xs.length + s := by
  have h1 := firstAt_le (cntOf xs) xs.length (by omega) (rd_cntOf xs) k hk
  have h2 := before_le xs k s
  unfold nextCode
  omega
/-- The code of a symbol; 0, if it has none. -/
def codeAt (xs : List Int) (s : Nat) : Int := if 0 < rd xs s ∧ rd xs s ≤ 15 then nextCode xs (rd xs s).toNat s else 0
def codesOf (xs : List Int) : List Int := (List.range xs.length).map (codeAt xs)
theorem codesOf_length (xs : List Int) : (codesOf xs).length = xs.length := by simp [codesOf]
theorem rd_codesOf (xs : List Int) (j : Nat) (h : j < xs.length) : rd (codesOf xs) j = codeAt xs j := by
  rw [rd_getElem (by rw [codesOf_length]; exact h)]
  simp [codesOf]
end Go.Proofs.YtendohnkhbgfbaaDoor
/-
  The walks of firsts and Codes.
-/
namespace Go.Proofs.YtendohnkhbgfbaaDoor
open Go.RowKit

def firstsTo (c : List Int) (k : Nat) : List Int := (List.range 16).map fun j => if j < k then firstAt c j else 0
theorem firstsTo_length (c : List Int) (k : Nat) : (firstsTo c k).length = 16 := by simp [firstsTo]
theorem rd_firstsTo (c : List Int) (k j : Nat) (h : j < 16) : rd (firstsTo c k) j = if j < k then firstAt c j else 0 := by
  rw [rd_getElem (by rw [firstsTo_length]; exact h)]
  simp [firstsTo]
theorem firstsTo_next (c : List Int) (k : Nat) (h : k < 16) : firstsTo c (k + 1) = (firstsTo c k).set k (firstAt c k) := by
  apply ext_rd (by simp [firstsTo_length])
  intro j hj
  rw [firstsTo_length] at hj
  rw [rd_set (by rw [firstsTo_length]; exact h), rd_firstsTo _ _ _ hj, rd_firstsTo _ _ _ hj]
  by_cases e : k = j
  · subst e; rw [if_pos rfl, if_pos (by omega)]
  · rw [if_neg e]
    by_cases g : j < k
    · rw [if_pos g, if_pos (by omega)]
    · rw [if_neg g, if_neg (by omega)]
theorem firstsTo_all (c : List Int) : firstsTo c 16 = firstsOf c := by
  apply ext_rd (by rw [firstsTo_length, firstsOf_length])
  intro j hj
  rw [firstsTo_length] at hj
  rw [rd_firstsTo _ _ _ hj, rd_firstsOf _ _ hj, if_pos hj]
theorem firstsTo_one (c : List Int) : firstsTo c 1 = List.replicate 16 0 := by
  apply ext_rd (by rw [firstsTo_length, List.length_replicate])
  intro j hj
  rw [firstsTo_length] at hj
  rw [rd_firstsTo _ _ _ hj]
  have : rd (List.replicate 16 (0 : Int)) j = 0 := by
    rw [rd_getElem (by rw [List.length_replicate]; exact hj), List.getElem_replicate]
  rw [this]
  split
  · have : j = 0 := by omega
    subst this; rfl
  · rfl

set_option maxHeartbeats 1000000 in
set_option maxRecDepth 200000 in
theorem firsts_calls (c : List Int) (n : Nat) (w : World) (hl : c.length = 16) (hn : n ≤ 1000000) (hc : ∀ j, j < 16 → 0 ≤ rd c j ∧ rd c j ≤ n) :
    Calls Tryd.prog 110 #[.agg (ints .i64 c).toArray] w fun e w' => e = .returned (.agg (ints .u64 (firstsOf c)).toArray) ∧ Below w.heap.size w w' := by
  have Hl := Lib.hid hl
  have Hc := Lib.hid hc
  clear hc
  go_enter Tryd.func110, Tryd.ntmps110
  go_wp2
  go_loopw [4, 5] (fun x i wr => ∃ k : Nat, k ≤ 15 ∧ i = .int .i64 (1 + k) ∧ x = .int .u64 (firstAt c k) ∧ Blk wr w.heap.size 175 .i64 c ∧ Blk wr (w.heap.size + 1) 178 .u64 (List.replicate 16 0) ∧ Blk wr (w.heap.size + 1 + 1) 178 .u64 (firstsTo c (1 + k)) ∧ Below w.heap.size w wr) (fun _ i _ => 16 - (intOf i).toNat)
  case atStart =>
    refine ⟨0, by omega, rfl, rfl, ?_, ?_, ?_, below_new (below_new (below_new (Below.refl _ _) (Nat.le_refl _) _) (Nat.le_refl _) _) (Nat.le_refl _) _⟩
    · exact Blk.alloc (Blk.alloc (heap_alloc_new w _) _) _
    · have h1 : Blk ((w.alloc (Obj.cells (ints .i64 c).toArray 175)).alloc (Obj.cells #[Value.int IntKind.u64 0, Value.int IntKind.u64 0, Value.int IntKind.u64 0, Value.int IntKind.u64 0, Value.int IntKind.u64 0, Value.int IntKind.u64 0, Value.int IntKind.u64 0, Value.int IntKind.u64 0, Value.int IntKind.u64 0, Value.int IntKind.u64 0, Value.int IntKind.u64 0, Value.int IntKind.u64 0, Value.int IntKind.u64 0, Value.int IntKind.u64 0, Value.int IntKind.u64 0, Value.int IntKind.u64 0] 178)) (w.heap.size + 1) 178 .u64 (List.replicate 16 0) := heap_alloc2_new _ _ _
      exact h1.alloc _
    · rw [firstsTo_one]
      have h1 : Blk (((w.alloc (Obj.cells (ints .i64 c).toArray 175)).alloc (Obj.cells #[Value.int IntKind.u64 0, Value.int IntKind.u64 0, Value.int IntKind.u64 0, Value.int IntKind.u64 0, Value.int IntKind.u64 0, Value.int IntKind.u64 0, Value.int IntKind.u64 0, Value.int IntKind.u64 0, Value.int IntKind.u64 0, Value.int IntKind.u64 0, Value.int IntKind.u64 0, Value.int IntKind.u64 0, Value.int IntKind.u64 0, Value.int IntKind.u64 0, Value.int IntKind.u64 0, Value.int IntKind.u64 0] 178)).alloc (Obj.cells #[Value.int IntKind.u64 0, Value.int IntKind.u64 0, Value.int IntKind.u64 0, Value.int IntKind.u64 0, Value.int IntKind.u64 0, Value.int IntKind.u64 0, Value.int IntKind.u64 0, Value.int IntKind.u64 0, Value.int IntKind.u64 0, Value.int IntKind.u64 0, Value.int IntKind.u64 0, Value.int IntKind.u64 0, Value.int IntKind.u64 0, Value.int IntKind.u64 0, Value.int IntKind.u64 0, Value.int IntKind.u64 0] 178)) ((w.alloc (Obj.cells (ints .i64 c).toArray 175)).heap.size + 1) 178 .u64 (List.replicate 16 0) := heap_alloc2_new _ _ _
      rw [show (w.alloc (Obj.cells (ints .i64 c).toArray 175)).heap.size = w.heap.size + 1 from by simp] at h1
      exact h1
  case round =>
    obtain ⟨k, hk, rfl, rfl, hB0, hB1, hB2, hbel⟩ := hrel
    have HB0 := Lib.hid hB0
    have HB1 := Lib.hid hB1
    have HB2 := Lib.hid hB2
    have Hbel := Lib.hid hbel
    clear hB0 hB1 hB2 hbel
    by_cases hlt : k < 15
    · have hck := HB0.out.cell (j := k) (by omega)
      have hr := Hc.out k (by omega)
      have hf := firstAt_le c n (by omega) Hc.out k (by omega)
      have hst := HB2.out.frozen (1 + k)
      have hcl := HB2.out.cell (j := 1 + k) (by rw [firstsTo_length]; omega)
      have El := Lib.hid (show firstAt c (1 + k) = 2 * (firstAt c k + rd c k) from by rw [Nat.add_comm]; rfl)
      have s1 : ((1 : Int) + k).toNat = 1 + k := by omega
      have s2 : IntKind.i64.wrap (1 + (k : Int) - 1) = k := by rw [IntWalk.i64_in _ (by omega)]; omega
      go_wp2
      go_roundw
      case rel =>
        have e1 : (firstAt c k + rd c k) * 2 = firstAt c (1 + k) := by rw [El.out]; omega
        refine ⟨k + 1, by omega, by go_num, by rw [e1, Nat.add_comm], HB0.out.other _ _ (by simp; omega), HB1.out.other _ _ (by simp), ?_, Hbel.out.setCell (by simp; omega) _⟩
        rw [show 1 + (k + 1) = 1 + k + 1 from by omega, firstsTo_next c (1 + k) (by omega), ← e1]
        exact HB2.out.set _ _
      case measure => simp [intOf]; omega
    · have hk15 : k = 15 := by omega
      rw [hk15, show 1 + 15 = 16 from rfl, firstsTo_all] at HB2
      clear hk15
      have hs : (ints .u64 (firstsOf c)).toArray.size = 16 := by rw [ints_size, firstsOf_length]
      have Hs := Lib.hid hs
      clear hs
      go_wp2_with (first
        | (refine wpList_load_row rfl 178 _ rfl (w.heap.size + 1 + 1) rfl 178 _ (0, 0) _ HB2.out Tryd.underlying178 rfl (by rw [Hs.out]; kernel_rfl) ?_)
        | (refine wpList_store_row rfl 178 _ _ rfl (w.heap.size + 1) _ rfl rfl 178 _ HB1.out (by rw [Hs.out]; kernel_rfl) (by rw [Hs.out]; simp [ints]) (ints_one _ _) ?_))
      have hrow := setRow_heap _ (w.heap.size + 1) _ (ints .u64 (firstsOf c)).toArray 178 _ HB1.out
      have hl := run_loadVar_row (P := Tryd.prog) _ (w.heap.size + 1) 178 178 _ _ _ hrow Tryd.underlying178 rfl (by rw [Hs.out]; kernel_rfl)
      refine bodyPost_ret (v := .agg (ints .u64 (firstsOf c)).toArray) ?_ rfl ⟨rfl, ?_⟩
      · simp [results, Tryd.results110, asAddr, hl, Act.put]
      · exact Hbel.out.trans ⟨rfl, rfl, rfl, by simp, fun i hi => setRow_other _ (w.heap.size + 1) i _ (by omega)⟩
end Go.Proofs.YtendohnkhbgfbaaDoor
/-
  The walk of Codes.
-/
namespace Go.Proofs.YtendohnkhbgfbaaDoor
open Go.RowKit

theorem elU64 : ElT Tryd.prog 108 49 (.int .u64 0) 1 8 := ⟨Tryd.underlying108, by kernel_rfl, rfl, by decide, by decide⟩

theorem lensOk_at {xs : List Int} (h : lensOk xs = true) (s : Nat) (hs : s < xs.length) : 0 ≤ rd xs s ∧ rd xs s ≤ 15 := by
  have := List.all_eq_true.1 h xs[s] (List.getElem_mem _)
  rw [rd_getElem hs]
  simpa using this

set_option maxHeartbeats 2000000 in
set_option maxRecDepth 200000 in
theorem Codes_calls (A : Option Addr) (n cap : Nat) (xs : List Int) (w : World) (hR : Rd w .i64 A n xs) (hn : n ≤ 1000000) (hok : lensOk xs = true) :
    Calls Tryd.prog 80 #[.slice A n cap] w fun e w' => ∃ v, e = .returned v ∧ w'.ownsRow w.heap.size 49 1 v n (ints .u64 (codesOf xs)) ∧ Below w.heap.size w w' := by
  have HR := Lib.hid hR
  have hlen := Lib.hid hR.1
  have Hok := Lib.hid hok
  clear hR hok
  go_enter Tryd.func80, Tryd.ntmps80
  go_wp2_with fail
  refine (counts_calls A n cap xs _ HR.out (by omega)).mono ?_
  rintro e w1 ⟨l, hl, rfl, hcnt, hb1⟩
  obtain rfl := hcnt Hok.out
  have Hl := Lib.hid hl
  have Hb1 := Lib.hid hb1
  have hs1 := hb1.size
  have Hc := Lib.hid (rd_cntOf xs)
  clear hl hcnt hb1
  generalize hcd : cntOf xs = c at *
  have Hcd := Lib.hid hcd
  clear hcd
  have W2 : Hid (∀ o, Below w.heap.size w (World.setRow (w1.alloc o) w1.heap.size (ints .i64 c).toArray)) := fun o => (below_new Hb1.out (Nat.le_refl _) _).trans ⟨rfl, rfl, rfl, by simp, fun i hi => setRow_other _ w1.heap.size i _ (by omega)⟩
  go_wp2_with (first
    | (refine wpList_store_row rfl 175 _ _ rfl w1.heap.size _ rfl rfl 175 _ (heap_alloc_new _ _) (by rw [ints_size, Hl.out]; kernel_rfl) (by rw [ints_size, Hl.out]; rfl) (ints_one _ _) ?_)
    | (refine wpList_load_row rfl 175 _ rfl w1.heap.size rfl 175 _ (0, 0) _ (setRow_heap _ w1.heap.size _ _ 175 _ (heap_alloc_new _ _)) Tryd.underlying175 rfl (by rw [ints_size, Hl.out]; kernel_rfl) ?_))
  refine (firsts_calls c n _ Hl.out hn (by have := Hc.out; rw [hlen.out] at this; exact this)).mono ?_
  rintro e w2 ⟨rfl, hb2⟩
  have Hb2 := Lib.hid (below_seq (W2.out _) (Nat.le_refl _) hb2)
  have hs2 := Hb2.out.size
  have Fl := Lib.hid (firstsOf_length c)
  have W3 : Hid (∀ o, Below w.heap.size w (World.setRow (w2.alloc o) w2.heap.size (ints .u64 (firstsOf c)).toArray)) := fun o => (below_new Hb2.out (Nat.le_refl _) _).trans ⟨rfl, rfl, rfl, by simp, fun i hi => setRow_other _ w2.heap.size i _ (by omega)⟩
  have B3 : Hid (∀ old, Blk (World.setRow (w2.alloc (.cells old 178)) w2.heap.size (ints .u64 (firstsOf c)).toArray) w2.heap.size 178 .u64 (firstsOf c)) := fun old => setRow_heap _ w2.heap.size _ _ 178 _ (heap_alloc_new w2 (Obj.cells old 178))
  clear hb2 W2 Hb1
  go_wp2_with (first
    | (refine wpList_store_row rfl 178 _ _ rfl w2.heap.size _ rfl rfl 178 _ (heap_alloc_new _ _) (by rw [ints_size, Fl.out]; kernel_rfl) (by rw [ints_size, Fl.out]; rfl) (ints_one _ _) ?_)
    | (at_make; refine wpList_mk1 (base := w.heap.size) (n := n) _ rfl _ _ rfl elU64 rfl rfl rfl rfl (by omega) (by simp; omega) ?_; intro w4 hown4 hb4 hsz4))
  have hown4' : w4.ownsRow w.heap.size 49 1 (.slice (some ⟨w2.heap.size + 1, 0, none⟩) n n) n (ints .u64 (List.replicate n 0)) := by simpa using hown4
  have hsz4' : w4.heap.size = w2.heap.size + 1 + 1 := by simpa using hsz4
  have Hown4 := Lib.hid hown4'
  have HB4 := Lib.hid ((B3.out _).below hb4 (by simp))
  have Hb4 := Lib.hid (below_seq (W3.out _) (Nat.le_refl _) hb4)
  have hs4 : w2.heap.size < w4.heap.size := HB4.out.lt
  clear hown4 hown4' hb4 W3 B3 hsz4
  go_loopw [21] (fun i wr => ∃ (s : Nat) (nx l : List Int), s ≤ n ∧ i = .int .i64 s ∧ wr.ownsRow w.heap.size 49 1 (.slice (some ⟨w2.heap.size + 1, 0, none⟩) n n) n (ints .u64 l) ∧ Blk wr w2.heap.size 178 .u64 nx ∧ nx.length = 16 ∧ Hid (∀ j, 0 < j → j < 16 → rd nx j = nextCode xs j s) ∧ Hid (∀ j, j < n → rd l j = if j < s then codeAt xs j else 0) ∧ Below w.heap.size w wr) (fun i _ => n - (intOf i).toNat)
  case atStart =>
    refine ⟨0, _, _, by omega, rfl, Hown4.out, HB4.out, Fl.out, ?_, ?_, Hb4.out⟩
    · intro j h1 h2
      rw [rd_firstsOf _ _ h2]
      unfold nextCode
      rw [Hcd.out, before_zero]
      exact (Int.add_zero _).symm
    · intro j hj
      rw [if_neg (by omega), rd_getElem (by rw [List.length_replicate]; exact hj), List.getElem_replicate]
  case round =>
    obtain ⟨s, nx, l, hs, rfl, hown, hB, hnl, Hnx, Hl2, hbel⟩ := hrel
    have hll : l.length = n := by have := hown.1; simpa [ints] using this
    have Hown := Lib.hid hown
    have HB := Lib.hid hB
    have Hbel := Lib.hid hbel
    clear hown hB hbel
    by_cases hlt : s < n
    · obtain ⟨b, o, rfl, hcx⟩ := HR.out.2 (by omega)
      have z := kept_cell Hbel.out (hcx s hlt)
      clear hcx
      have hx := lensOk_at Hok.out s (by rw [hlen.out]; exact hlt)
      by_cases h0 : rd xs s = 0
      · have e1 : codeAt xs s = 0 := by unfold codeAt; rw [if_neg (by omega)]
        have H0 := Lib.hid h0
        have Hnx2 : Hid (∀ j, 0 < j → j < 16 → rd nx j = nextCode xs j (s + 1)) := fun j h1 h2 => by
          rw [Hnx.out j h1 h2]
          unfold nextCode
          rw [before_miss xs j s (by rw [hlen.out]; exact hlt) (by rw [H0.out]; omega)]
        rw [h0] at z
        clear h0 hx
        go_wp2
        go_roundw
        case rel =>
          refine ⟨s + 1, nx, l, by omega, by go_num, Hown.out, HB.out, hnl, Hnx2, ?_, Hbel.out⟩
          intro j hj
          rw [Hl2.out j hj]
          by_cases g : j < s
          · rw [if_pos g, if_pos (by omega)]
          · rw [if_neg g]
            by_cases g2 : j = s
            · subst g2; rw [if_pos (by omega), e1]
            · rw [if_neg (by omega)]
        case measure => simp [intOf]; omega
      · obtain ⟨k, hk⟩ : ∃ k : Nat, rd xs s = k := ⟨(rd xs s).toNat, by omega⟩
        rw [hk] at z
        have k1 : 0 < k := by omega
        have k2 : k < 16 := by omega
        have hv := nextCode_range xs k s (by omega)
        rw [hlen.out] at hv
        have e1 : codeAt xs s = rd nx k := by
          unfold codeAt
          rw [if_pos (by omega), hk, Hnx.out k k1 k2]
          rfl
        rw [← Hnx.out k k1 k2] at hv
        have E1 := Lib.hid e1
        have HK := Lib.hid hk
        have yc := HB.out.cell (j := k) (by omega)
        have yf := HB.out.frozen k
        have xc := Hown.out.cellAt s (by omega)
        rw [ints_get (by omega)] at xc
        have xf := Hown.out.frozenAt s
        have Hnx2 : Hid (∀ j, 0 < j → j < 16 → rd (nx.set k (rd nx k + 1)) j = nextCode xs j (s + 1)) := fun j h1 h2 => by
          rw [rd_set (by omega)]
          by_cases e : k = j
          · subst e
            rw [if_pos rfl, Hnx.out k h1 h2]
            unfold nextCode
            rw [before_hit xs k s (by rw [hlen.out]; exact hlt) HK.out]
            omega
          · rw [if_neg e, Hnx.out j h1 h2]
            unfold nextCode
            rw [before_miss xs j s (by rw [hlen.out]; exact hlt) (by rw [HK.out]; omega)]
        clear h0 hx hk e1
        go_wp2
        go_roundw
        case rel =>
          refine ⟨s + 1, nx.set k (rd nx k + 1), l.set s (rd nx k), by omega, by go_num, ?_, ?_, by rw [List.length_set]; exact hnl, Hnx2, ?_, (Hbel.out.setCell (p := ⟨w2.heap.size + 1, s, none⟩) (by show _ ≤ w2.heap.size + 1; omega) _).setCell (p := ⟨w2.heap.size, k, none⟩) hs2 _⟩
          · exact ownsRow_setCell_other (a := ⟨w2.heap.size, k, none⟩) (by rw [ints_set]; exact (Hown.out.stored s _).1) (by simp [Value.ownBlock]) _
          · exact (HB.out.other ⟨w2.heap.size + 1, s, none⟩ _ (by simp)).set k _
          · intro j hj
            rw [rd_set (by omega), Hl2.out j hj]
            by_cases g2 : s = j
            · subst g2; rw [if_pos rfl, if_pos (by omega), E1.out]
            · rw [if_neg g2]
              by_cases g : j < s
              · rw [if_pos g, if_pos (by omega)]
              · rw [if_neg g, if_neg (by omega)]
        case measure => simp [intOf]; omega
    · obtain rfl : s = n := by omega
      have e : l = codesOf xs := ext_rd (by rw [hll, codesOf_length, hlen.out]) (fun j hj => by rw [Hl2.out j (by omega), if_pos (by omega), rd_codesOf _ _ (by rw [hlen.out]; omega)])
      subst e
      go_wp2
      go_ret
      exact ⟨_, rfl, Hown.out, Hbel.out⟩
end Go.Proofs.YtendohnkhbgfbaaDoor
/-
  Plain facts: the two tests of lengths are one (no program).
-/
namespace Go.Proofs.YtendohnkhbgfbaaDoor

/-- Horner's sum of f 1 .. f i, each the double of the next. -/
def tot (f : Nat → Int) : Nat → Int
  | 0 => 0
  | i + 1 => 2 * tot f i + f (i + 1)
def plainSum (f : Nat → Int) : Nat → Int
  | 0 => 0
  | i + 1 => plainSum f i + f (i + 1)
theorem tot_add (f g : Nat → Int) (k : Nat) (hk : 0 < k) (i : Nat) (h : ∀ j, 0 < j → j ≤ i → g j = f j + if j = k then 1 else 0) : tot g i = tot f i + if k ≤ i then 2 ^ (i - k) else 0 := by
  induction i with
  | zero => simp [tot]; omega
  | succ i ih =>
    have h1 := ih (fun j h1 h2 => h j h1 (by omega))
    simp only [tot]
    rw [h1, h (i + 1) (by omega) (Nat.le_refl _)]
    by_cases e : k ≤ i
    · rw [if_pos e, if_neg (by omega), if_pos (by omega), show i + 1 - k = (i - k) + 1 from by omega, Int.pow_succ]
      omega
    · rw [if_neg e]
      by_cases e2 : i + 1 = k
      · rw [if_pos e2, if_pos (by omega), show i + 1 - k = 0 from by omega]
        omega
      · rw [if_neg e2, if_neg (by omega)]
        omega
theorem plainSum_add (f g : Nat → Int) (k : Nat) (hk : 0 < k) (i : Nat) (h : ∀ j, 0 < j → j ≤ i → g j = f j + if j = k then 1 else 0) : plainSum g i = plainSum f i + if k ≤ i then 1 else 0 := by
  induction i with
  | zero => simp [plainSum]; omega
  | succ i ih =>
    have h1 := ih (fun j h1 h2 => h j h1 (by omega))
    simp only [plainSum]
    rw [h1, h (i + 1) (by omega) (Nat.le_refl _)]
    by_cases e : k ≤ i
    · rw [if_pos e, if_neg (by omega), if_pos (by omega)]
      omega
    · rw [if_neg e]
      by_cases e2 : i + 1 = k
      · rw [if_pos e2, if_pos (by omega)]
        omega
      · rw [if_neg e2, if_neg (by omega)]
        omega
theorem tot_same (f g : Nat → Int) (i : Nat) (h : ∀ j, 0 < j → j ≤ i → g j = f j) : tot g i = tot f i := by
  induction i with
  | zero => rfl
  | succ i ih => simp only [tot]; rw [ih (fun j h1 h2 => h j h1 (by omega)), h (i + 1) (by omega) (Nat.le_refl _)]
theorem plainSum_same (f g : Nat → Int) (i : Nat) (h : ∀ j, 0 < j → j ≤ i → g j = f j) : plainSum g i = plainSum f i := by
  induction i with
  | zero => rfl
  | succ i ih => simp only [plainSum]; rw [ih (fun j h1 h2 => h j h1 (by omega)), h (i + 1) (by omega) (Nat.le_refl _)]
theorem tot_nil (i : Nat) : tot (fun _ => 0) i = 0 := by
  induction i with
  | zero => rfl
  | succ i ih => simp only [tot]; rw [ih]; rfl
theorem plainSum_nil (i : Nat) : plainSum (fun _ => 0) i = 0 := by
  induction i with
  | zero => rfl
  | succ i ih => simp only [plainSum]; rw [ih]; rfl
theorem leftAt_tot (c : List Int) (i : Nat) : leftAt c i = 2 ^ i - tot (rd c) i := by
  induction i with
  | zero => rfl
  | succ i ih =>
    simp only [leftAt, tot]
    rw [ih, Int.pow_succ]
    omega
theorem sumAt_plain (c : List Int) (i : Nat) : sumAt c i = plainSum (rd c) i := by
  induction i with
  | zero => rfl
  | succ i ih => simp only [sumAt, plainSum]; rw [ih]
/-- What the document sums up, of the first s lengths. -/
def befores (xs : List Int) (s : Nat) (j : Nat) : Int := (before xs j s : Nat)
def sumR (xs : List Int) (s : Nat) : Int := tot (befores xs s) 15
def manyR (xs : List Int) (s : Nat) : Int := plainSum (befores xs s) 15
theorem befores_next (xs : List Int) (s k : Nat) (hs : s < xs.length) (hx : rd xs s = k) (j : Nat) : befores xs (s + 1) j = befores xs s j + if j = k then 1 else 0 := by
  unfold befores
  by_cases e : j = k
  · subst e; rw [before_hit xs j s hs hx, if_pos rfl]; omega
  · rw [before_miss xs j s hs (by rw [hx]; omega), if_neg e]; omega
theorem sumR_next (xs : List Int) (s k : Nat) (hs : s < xs.length) (hx : rd xs s = k) (hk : 0 < k) (hk2 : k ≤ 15) : sumR xs (s + 1) = sumR xs s + 2 ^ (15 - k) := by
  have := tot_add (befores xs s) (befores xs (s + 1)) k hk 15 (fun j _ _ => befores_next xs s k hs hx j)
  rw [if_pos hk2] at this
  exact this
theorem manyR_next (xs : List Int) (s k : Nat) (hs : s < xs.length) (hx : rd xs s = k) (hk : 0 < k) (hk2 : k ≤ 15) : manyR xs (s + 1) = manyR xs s + 1 := by
  have := plainSum_add (befores xs s) (befores xs (s + 1)) k hk 15 (fun j _ _ => befores_next xs s k hs hx j)
  rw [if_pos hk2] at this
  exact this
theorem sumR_zero (xs : List Int) (s : Nat) (hs : s < xs.length) (hx : rd xs s = 0) : sumR xs (s + 1) = sumR xs s :=
  tot_same _ _ 15 (fun j h1 _ => by unfold befores; rw [before_miss xs j s hs (by rw [hx]; omega)])
theorem manyR_zero (xs : List Int) (s : Nat) (hs : s < xs.length) (hx : rd xs s = 0) : manyR xs (s + 1) = manyR xs s :=
  plainSum_same _ _ 15 (fun j h1 _ => by unfold befores; rw [before_miss xs j s hs (by rw [hx]; omega)])
theorem sumR_start (xs : List Int) : sumR xs 0 = 0 := (tot_same (fun _ => 0) _ 15 (fun j _ _ => by unfold befores; rw [before_zero]; rfl)).trans (tot_nil 15)
theorem manyR_start (xs : List Int) : manyR xs 0 = 0 := (plainSum_same (fun _ => 0) _ 15 (fun j _ _ => by unfold befores; rw [before_zero]; rfl)).trans (plainSum_nil 15)
theorem cnt_befores (xs : List Int) (j : Nat) (h : 0 < j) (h2 : j ≤ 15) : rd (cntOf xs) j = befores xs xs.length j := rd_cntOf_pos xs j h (by omega)
theorem left_end (xs : List Int) : leftAt (cntOf xs) 15 = 32768 - sumR xs xs.length := by
  rw [leftAt_tot, tot_same (befores xs xs.length) (rd (cntOf xs)) 15 (fun j h1 h2 => cnt_befores xs j h1 h2), show ((2 : Int) ^ 15) = 32768 from by decide +kernel]
  rfl
theorem sum_end (xs : List Int) : sumAt (cntOf xs) 15 = manyR xs xs.length := by
  rw [sumAt_plain, plainSum_same (befores xs xs.length) (rd (cntOf xs)) 15 (fun j h1 h2 => cnt_befores xs j h1 h2)]
  rfl
/-- The steps need no look of their own. -/
theorem left_neg (c : List Int) (hc : ∀ j, j < 16 → 0 ≤ rd c j) (i d : Nat) (h : leftAt c i < 0) (hd : i + d ≤ 15) : leftAt c (i + d) < 0 := by
  induction d with
  | zero => exact h
  | succ d ih =>
    have h1 := ih (by omega)
    have h2 := hc (i + d + 1) (by omega)
    show leftAt c (i + d + 1) < 0
    simp only [leftAt]
    omega
theorem sum_mono (c : List Int) (hc : ∀ j, j < 16 → 0 ≤ rd c j) (i d : Nat) (hd : i + d ≤ 15) : sumAt c i ≤ sumAt c (i + d) := by
  induction d with
  | zero => exact Int.le_refl _
  | succ d ih =>
    have h1 := ih (by omega)
    have h2 := hc (i + d + 1) (by omega)
    show sumAt c i ≤ sumAt c (i + d + 1)
    simp only [sumAt]
    omega
theorem left_alone (c : List Int) (hc : ∀ j, j < 16 → 0 ≤ rd c j) (h1 : rd c 1 = 1) (hs : sumAt c 15 = 1) (i : Nat) (hi : i < 15) : 1 ≤ leftAt c (i + 1) := by
  induction i with
  | zero => simp only [leftAt, Nat.zero_add]; omega
  | succ i ih =>
    have h2 := ih (by omega)
    have h3 := sum_mono c hc 1 i (by omega)
    have h4 := sum_mono c hc (i + 2) (15 - (i + 2)) (by omega)
    rw [show i + 2 + (15 - (i + 2)) = 15 from by omega, hs] at h4
    have h5 : sumAt c 1 = 1 := by simp only [sumAt, Nat.zero_add]; omega
    have h6 : sumAt c (i + 2) = sumAt c (i + 1) + rd c (i + 2) := rfl
    rw [Nat.add_comm 1 i] at h3
    have h7 := hc (i + 2) (by omega)
    show 1 ≤ 2 * leftAt c (i + 1) - rd c (i + 2)
    omega
theorem rightOf_end (c : List Int) (hc : ∀ j, j < 16 → 0 ≤ rd c j) : rightOf c = (leftAt c 15 == 0 || (sumAt c 15 == 1 && rd c 1 == 1)) := by
  unfold rightOf
  cases hl : leftOk c 15
  · rw [Bool.false_and]
    have hex : ∃ i, i < 15 ∧ leftAt c (i + 1) < 0 := by
      unfold leftOk at hl
      rw [List.all_eq_false] at hl
      obtain ⟨i, hi, hn⟩ := hl
      exact ⟨i, List.mem_range.1 hi, by simpa using hn⟩
    obtain ⟨i, hi, hn⟩ := hex
    have h1 := left_neg c hc (i + 1) (15 - (i + 1)) hn (by omega)
    rw [show i + 1 + (15 - (i + 1)) = 15 from by omega] at h1
    have e1 : (leftAt c 15 == 0) = false := by simp; omega
    rw [e1, Bool.false_or]
    cases e2 : (sumAt c 15 == 1)
    · rfl
    · cases e3 : (rd c 1 == 1)
      · rfl
      · have h9 : 1 ≤ leftAt c 15 := left_alone c hc (by simpa using e3) (by simpa using e2) 14 (by omega)
        omega
  · rw [Bool.true_and]
def rightR (xs : List Int) : Bool := lensOk xs && (sumR xs xs.length == 32768 || (manyR xs xs.length == 1 && befores xs xs.length 1 == 1))
theorem rightR_eq (xs : List Int) : rightR xs = rightB xs := by
  unfold rightR rightB
  rw [rightOf_end _ (fun j hj => (rd_cntOf xs j hj).1), left_end, sum_end, cnt_befores xs 1 (by omega) (by omega)]
  have : (32768 - sumR xs xs.length == 0) = (sumR xs xs.length == 32768) := by
    rw [Bool.eq_iff_iff]
    simp
    omega
  rw [this]
end Go.Proofs.YtendohnkhbgfbaaDoor
/-
  The walk of New.
-/
namespace Go.Proofs.YtendohnkhbgfbaaDoor
open Go.RowKit

/-- A coder: 48 numbers, and a slice. -/
def CoderAt (w : World) (h : Nat) (m : List Int) (v : Value) : Prop := w.heap[h]? = some (.cells (ints .i64 m ++ [v]).toArray 206 (0, 0))
theorem CoderAt.lt {w : World} {h : Nat} {m : List Int} {v : Value} (hc : CoderAt w h m v) : h < w.heap.size := (Array.getElem?_eq_some_iff.1 hc).1
theorem CoderAt.cell {w : World} {h : Nat} {m : List Int} {v : Value} (hc : CoderAt w h m v) {j : Nat} (hj : j < m.length) : w.cell? ⟨h, j, none⟩ = some (.int .i64 (rd m j)) := by
  rw [cell_of_row w h j _ _ (0, 0) hc, List.getElem?_toArray, List.getElem?_append_left (by rw [ints_length]; exact hj), ints_get hj]
theorem CoderAt.last {w : World} {h : Nat} {m : List Int} {v : Value} (hc : CoderAt w h m v) (hm : m.length = 48) : w.cell? ⟨h, 48, none⟩ = some v := by
  rw [cell_of_row w h 48 _ _ (0, 0) hc, List.getElem?_toArray, List.getElem?_append_right (by rw [ints_length]; omega), ints_length, hm]
  rfl
theorem CoderAt.frozen {w : World} {h : Nat} {m : List Int} {v : Value} (hc : CoderAt w h m v) (j : Nat) : w.frozen? ⟨h, j, none⟩ = false := frozen_of_row w h j _ _ hc
theorem CoderAt.set {w : World} {h : Nat} {m : List Int} {v : Value} (hc : CoderAt w h m v) {j : Nat} (hj : j < m.length) (x : Int) : CoderAt (w.setCell ⟨h, j, none⟩ (.int .i64 x)) h (m.set j x) v := by
  unfold CoderAt
  rw [heap_setCell_same w h j _ _ _ hc, ints_set]
  simp only [List.setIfInBounds_toArray]
  rw [List.set_append_left _ _ (by rw [ints_length]; exact hj)]
theorem CoderAt.setLast {w : World} {h : Nat} {m : List Int} {v : Value} (hc : CoderAt w h m v) (hm : m.length = 48) (u : Value) : CoderAt (w.setCell ⟨h, 48, none⟩ u) h m u := by
  unfold CoderAt
  rw [heap_setCell_same w h 48 _ _ _ hc]
  simp only [List.setIfInBounds_toArray]
  rw [List.set_append_right _ _ (by rw [ints_length]; omega), ints_length, hm]
  rfl
theorem CoderAt.other {w : World} {h : Nat} {m : List Int} {v : Value} (hc : CoderAt w h m v) (a : Addr) (u : Value) (hne : h ≠ a.block) : CoderAt (w.setCell a u) h m v := (heap_setCell_other w a h u hne).trans hc
theorem CoderAt.below {w w' : World} {h : Nat} {m : List Int} {v : Value} (hc : CoderAt w h m v) {B : Nat} (hb : Below B w w') (hB : h < B) : CoderAt w' h m v := (hb.block h hB).trans hc
theorem CoderAt.alloc {w : World} {h : Nat} {m : List Int} {v : Value} (hc : CoderAt w h m v) (o : Obj) : CoderAt (w.alloc o) h m v := (Below.heap_alloc _ _ _ hc.lt).trans hc
theorem own_ne {w : World} {h : Nat} {cells : Array Value} {T e : TypeId} {base n size : Nat} {v : Value} {xs : List Value} (hh : w.heap[h]? = some (.cells cells T (0, 0))) (hT : T ≠ e) (ho : w.ownsRow base e size v n xs) : v.ownBlock ≠ some h := by
  intro hb
  rcases ho.2 with ⟨rfl, _⟩ | ⟨g, cap, cur, rfl, _, hg, _⟩
  · simp [Value.ownBlock] at hb
  · simp [Value.ownBlock] at hb
    subst hb
    rw [hh] at hg
    simp at hg
    exact hT hg.2
def ofLen (xs : List Int) (k s : Nat) : List Int := ((List.range s).filter fun j => rd xs j == (k : Int)).map Int.ofNat
def symsTo (xs : List Int) : Nat → List Int
  | 0 => []
  | k + 1 => symsTo xs k ++ ofLen xs (k + 1) xs.length
theorem ofLen_le (xs : List Int) (k s : Nat) : (ofLen xs k s).length ≤ s := by
  unfold ofLen
  have := List.length_filter_le (fun j => rd xs j == (k : Int)) (List.range s)
  simpa using this
theorem ofLen_hit (xs : List Int) (k s : Nat) (h : rd xs s = k) : ofLen xs k (s + 1) = ofLen xs k s ++ [(s : Int)] := by
  unfold ofLen
  simp [List.range_succ, List.filter_append, h]
theorem ofLen_miss (xs : List Int) (k s : Nat) (h : rd xs s ≠ k) : ofLen xs k (s + 1) = ofLen xs k s := by
  unfold ofLen
  have : (rd xs s == (k : Int)) = false := by simpa using h
  simp [List.range_succ, List.filter_append, this]
theorem symsTo_le (xs : List Int) (k : Nat) : (symsTo xs k).length ≤ k * xs.length := by
  induction k with
  | zero => simp [symsTo]
  | succ k ih =>
    have h1 := ofLen_le xs (k + 1) xs.length
    simp only [symsTo, List.length_append, Nat.succ_mul]
    omega
theorem elIntN : ElT Tryd.prog 99 3 (.int .i64 0) 1 8 := ⟨Tryd.underlying99, by kernel_rfl, rfl, by decide, by decide⟩
/-- A coder of such lengths. -/
def Coder (w : World) (base h : Nat) (xs : List Int) : Prop :=
  ∃ (m : List Int) (v : Value), m.length = 48 ∧ base ≤ h ∧ CoderAt w h m v ∧ (∀ j, 0 < j → j ≤ 15 → rd m j = firstAt (cntOf xs) j ∧ rd m (16 + j) = rd (cntOf xs) j ∧ rd m (32 + j) = ((symsTo xs (j - 1)).length : Nat)) ∧ w.ownsRow base 3 1 v (symsTo xs 15).length (ints .i64 (symsTo xs 15))

set_option maxHeartbeats 2000000 in
set_option maxRecDepth 200000 in
theorem New_calls (A : Option Addr) (n cap : Nat) (xs : List Int) (w : World) (hR : Rd w .i64 A n xs) (hn : n ≤ 1000000) :
    Calls Tryd.prog 103 #[.slice A n cap] w fun e w' => (rightB xs = false ∧ e = .returned (.tuple #[.pointer none, .bool false]) ∨ rightB xs = true ∧ ∃ h, e = .returned (.tuple #[.pointer (some ⟨h, 0, none⟩), .bool true]) ∧ Coder w' w.heap.size h xs) ∧ Below w.heap.size w w' := by
  have HR := Lib.hid hR
  have hlen := Lib.hid hR.1
  clear hR
  cases hrt : rightB xs
  · go_enter Tryd.func103, Tryd.ntmps103
    go_wp2_with fail
    refine (Right_calls A n cap xs _ HR.out (by omega)).mono ?_
    rintro e w1 ⟨rfl, hb1⟩
    rw [hrt]
    have Hb1 := Lib.hid hb1
    clear hb1 hrt
    go_wp2
    refine bodyPost_ret (v := .tuple #[.pointer none, .bool false]) (by simp [results, Tryd.results103, go_sem]) rfl ⟨.inl ⟨trivial, rfl⟩, Hb1.out⟩
  · have hok : lensOk xs = true := by
      unfold rightB at hrt
      simp at hrt
      exact hrt.1
    have Hok := Lib.hid hok
    clear hok
    go_enter Tryd.func103, Tryd.ntmps103
    go_wp2_with fail
    refine (Right_calls A n cap xs _ HR.out (by omega)).mono ?_
    rintro e w1 ⟨rfl, hb1⟩
    rw [hrt]
    have Hb1 := Lib.hid hb1
    have hs1 := hb1.size
    clear hb1 hrt
    go_wp2_with fail
    refine (counts_calls A n cap xs _ (HR.out.below (below_new Hb1.out (Nat.le_refl _) _)) (by omega)).mono ?_
    rintro e w2 ⟨l, hl, rfl, hcnt, hb2⟩
    obtain rfl := hcnt Hok.out
    have Hl := Lib.hid hl
    have CA : Hid (CoderAt w2 w1.heap.size (List.replicate 48 0) (.slice none 0 0)) := CoderAt.below (m := List.replicate 48 0) (v := .slice none 0 0) (heap_alloc_new w1 _) hb2 (by simp)
    have Hb2 := Lib.hid (below_seq (below_new Hb1.out (Nat.le_refl _) _) (Nat.le_refl _) hb2)
    have hs2 := Hb2.out.size
    have hs12 : w1.heap.size < w2.heap.size := CA.out.lt
    have Hc := Lib.hid (rd_cntOf xs)
    clear hl hcnt hb2 Hb1
    generalize hcd : cntOf xs = c at *
    have Hcd := Lib.hid hcd
    clear hcd
    have W2 : Hid (∀ o, Below w2.heap.size w2 (World.setRow (w2.alloc o) w2.heap.size (ints .i64 c).toArray)) := fun o => (below_new (Below.refl _ _) (Nat.le_refl _) _).trans ⟨rfl, rfl, rfl, by simp, fun i hi => setRow_other _ w2.heap.size i _ (by omega)⟩
    go_wp2_with (first
      | (refine wpList_store_row rfl 175 _ _ rfl w2.heap.size _ rfl rfl 175 _ (heap_alloc_new _ _) (by rw [ints_size, Hl.out]; kernel_rfl) (by rw [ints_size, Hl.out]; rfl) (ints_one _ _) ?_)
      | (refine wpList_load_row rfl 175 _ rfl w2.heap.size rfl 175 _ (0, 0) _ (setRow_heap _ w2.heap.size _ _ 175 _ (heap_alloc_new _ _)) Tryd.underlying175 rfl (by rw [ints_size, Hl.out]; kernel_rfl) ?_))
    have NB2 : Hid (∀ old, Blk (World.setRow (w2.alloc (.cells old 175)) w2.heap.size (ints .i64 c).toArray) w2.heap.size 175 .i64 c) := fun old => setRow_heap _ w2.heap.size _ _ 175 _ (heap_alloc_new w2 (Obj.cells old 175))
    refine (firsts_calls c n _ Hl.out hn (by have := Hc.out; rw [hlen.out] at this; exact this)).mono ?_
    rintro e w3 ⟨rfl, hb3⟩
    have hb23 : Below w2.heap.size w2 w3 := below_seq (W2.out _) (Nat.le_refl _) hb3
    have CA3 := Lib.hid (CA.out.below hb23 hs12)
    have NB3 := Lib.hid ((NB2.out _).below hb3 (by simp))
    have Hb3 := Lib.hid (below_seq Hb2.out (Nat.le_refl _) hb23)
    have hs3 : w2.heap.size < w3.heap.size := NB3.out.lt
    have Fl := Lib.hid (firstsOf_length c)
    have W4 : Hid (∀ o, Below w3.heap.size w3 (World.setRow (w3.alloc o) w3.heap.size (ints .u64 (firstsOf c)).toArray)) := fun o => (below_new (Below.refl _ _) (Nat.le_refl _) _).trans ⟨rfl, rfl, rfl, by simp, fun i hi => setRow_other _ w3.heap.size i _ (by omega)⟩
    have FB4 : Hid (∀ old, Blk (World.setRow (w3.alloc (.cells old 178)) w3.heap.size (ints .u64 (firstsOf c)).toArray) w3.heap.size 178 .u64 (firstsOf c)) := fun old => setRow_heap _ w3.heap.size _ _ 178 _ (heap_alloc_new w3 (Obj.cells old 178))
    clear hb3 hb23 W2 NB2 CA
    go_wp2_with (first
      | (refine wpList_store_row rfl 178 _ _ rfl w3.heap.size _ rfl rfl 178 _ (heap_alloc_new _ _) (by rw [ints_size, Fl.out]; kernel_rfl) (by rw [ints_size, Fl.out]; rfl) (ints_one _ _) ?_))
    go_loopw [8] (fun i wr => ∃ (k : Nat) (m : List Int) (v : Value), k ≤ 15 ∧ i = .int .i64 (1 + k) ∧ m.length = 48 ∧ CoderAt wr w1.heap.size m v ∧ Blk wr w2.heap.size 175 .i64 c ∧ Blk wr w3.heap.size 178 .u64 (firstsOf c) ∧ wr.ownsRow w.heap.size 3 1 v (symsTo xs k).length (ints .i64 (symsTo xs k)) ∧ Hid (∀ j, 0 < j → j ≤ k → rd m j = firstAt c j ∧ rd m (16 + j) = rd c j ∧ rd m (32 + j) = ((symsTo xs (j - 1)).length : Nat)) ∧ Below w.heap.size w wr) (fun i _ => 16 - (intOf i).toNat)
    case atStart =>
      refine ⟨0, List.replicate 48 0, .slice none 0 0, by omega, rfl, by simp, CA3.out.below (W4.out _) (by omega), NB3.out.below (W4.out _) hs3, FB4.out _, World.ownsRow_nil _ _ _ _, (fun j h1 h2 => by omega), below_seq Hb3.out (Nat.le_refl _) (W4.out _)⟩
    case round =>
      obtain ⟨k, m, v, hk, rfl, hm, hC, hN, hF, hown, Hm, hbel⟩ := hrel
      have HC := Lib.hid hC
      have HN := Lib.hid hN
      have HF := Lib.hid hF
      have Hown := Lib.hid hown
      have Hbel := Lib.hid hbel
      have hszr := hbel.size
      have l1 := hC.lt
      have l2 := hN.lt
      have l3 := hF.lt
      clear hC hN hF hown hbel
      by_cases hlt : k < 15
      · have n1 := HN.out.cell (j := 1 + k) (by rw [Hl.out]; omega)
        have f1 := HF.out.cell (j := 1 + k) (by rw [firstsOf_length]; omega)
        rw [rd_firstsOf _ _ (by omega)] at f1
        obtain ⟨sA, sc, rfl⟩ := own_slice Hown.out
        have c48 := HC.out.last hm
        have ca := HC.out.cell (j := 1 + k) (by omega)
        have cb := HC.out.cell (j := 16 + (1 + k)) (by omega)
        have cd := HC.out.cell (j := 32 + (1 + k)) (by omega)
        have fa := HC.out.frozen (1 + k)
        have fb := HC.out.frozen (16 + (1 + k))
        have fd := HC.out.frozen (32 + (1 + k))
        go_upto_region 9 with fail
        have hfr := firstAt_le c n (by omega) (by have := Hc.out; rw [hlen.out] at this; exact this) (1 + k) (by omega)
        have hlen48 : (symsTo xs k).length ≤ 15000000 := by
          have h1 := symsTo_le xs k
          have h2 : k * xs.length ≤ 15 * xs.length := Nat.mul_le_mul_right _ hk
          rw [hlen.out] at h1 h2
          omega
        have s1 : IntKind.i64.wrap (firstAt c (1 + k)) = firstAt c (1 + k) := IntWalk.i64_in _ (by omega)
        have s2 : ((1 : Int) + k).toNat = 1 + k := by omega
        have s3 : (0 : Int) ≤ 1 + k := by omega
        have s4 : (1 : Int) + k < 16 := by omega
        generalize hlenS : (symsTo xs k).length = L at *
        go_cut [] from 27 to 53 (fun wx => ∃ m', m'.length = 48 ∧ CoderAt wx w1.heap.size m' (.slice sA L sc) ∧ Blk wx w2.heap.size 175 .i64 c ∧ Blk wx w3.heap.size 178 .u64 (firstsOf c) ∧ wx.ownsRow w.heap.size 3 1 (.slice sA L sc) L (ints .i64 (symsTo xs k)) ∧ Hid (∀ j, rd m' j = if j = 1 + k then firstAt c (1 + k) else if j = 16 + (1 + k) then rd c (1 + k) else if j = 32 + (1 + k) then (L : Int) else rd m j) ∧ Below w.heap.size w wx)
        case first =>
          have hd1 : w1.heap.size ≠ w2.heap.size := by omega
          have hd2 : w1.heap.size ≠ w3.heap.size := by omega
          have hv1 := own_ne HC.out (by decide) Hown.out
          go_region
          all_goals
            go_wp2
            go_meet
            refine ⟨((m.set (1 + k) (firstAt c (1 + k))).set (16 + (1 + k)) (rd c (1 + k))).set (32 + (1 + k)) (L : Int), by simp [hm],
              ((HC.out.set (by omega) _).set (by rw [List.length_set]; omega) _).set (by rw [List.length_set, List.length_set]; omega) _,
              ((HN.out.other ⟨w1.heap.size, 1 + k, none⟩ _ (Ne.symm hd1)).other ⟨w1.heap.size, 16 + (1 + k), none⟩ _ (Ne.symm hd1)).other ⟨w1.heap.size, 32 + (1 + k), none⟩ _ (Ne.symm hd1),
              ((HF.out.other ⟨w1.heap.size, 1 + k, none⟩ _ (Ne.symm hd2)).other ⟨w1.heap.size, 16 + (1 + k), none⟩ _ (Ne.symm hd2)).other ⟨w1.heap.size, 32 + (1 + k), none⟩ _ (Ne.symm hd2),
              ownsRow_setCell_other (a := ⟨w1.heap.size, 32 + (1 + k), none⟩) (ownsRow_setCell_other (a := ⟨w1.heap.size, 16 + (1 + k), none⟩) (ownsRow_setCell_other (a := ⟨w1.heap.size, 1 + k, none⟩) Hown.out hv1 _) hv1 _) hv1 _, ?_,
              (((Hbel.out.setCell (p := ⟨w1.heap.size, 1 + k, none⟩) hs1 _).setCell (p := ⟨w1.heap.size, 16 + (1 + k), none⟩) hs1 _).setCell (p := ⟨w1.heap.size, 32 + (1 + k), none⟩) hs1 _).drew⟩
            intro j
            rw [rd_set (by rw [List.length_set, List.length_set]; omega), rd_set (by rw [List.length_set]; omega), rd_set (by omega)]
            by_cases e1 : j = 1 + k
            · rw [if_pos e1, if_neg (by omega), if_neg (by omega), if_pos (by omega)]
            · rw [if_neg e1]
              by_cases e2 : j = 16 + (1 + k)
              · rw [if_pos e2, if_neg (by omega), if_pos (by omega)]
              · rw [if_neg e2]
                by_cases e3 : j = 32 + (1 + k)
                · rw [if_pos e3, if_pos (by omega)]
                · rw [if_neg e3, if_neg (by omega), if_neg (by omega), if_neg (by omega)]
        case rest =>
          clear n1 f1 c48 ca cb cd fa fb fd s1 s2 s3 s4 HC HN HF Hown Hbel
          obtain ⟨m', hm', hC, hN, hF, hown, Hm', hbel⟩ := hcut
          have HC := Lib.hid hC
          have HN := Lib.hid hN
          have HF := Lib.hid hF
          have Hown := Lib.hid hown
          have Hbel := Lib.hid hbel
          clear hC hN hF hown hbel
          go_wp2
          go_loopw [56] (fun i wr => ∃ (s : Nat) (v : Value), s ≤ n ∧ i = .int .i64 s ∧ CoderAt wr w1.heap.size m' v ∧ Blk wr w2.heap.size 175 .i64 c ∧ Blk wr w3.heap.size 178 .u64 (firstsOf c) ∧ wr.ownsRow w.heap.size 3 1 v (L + (ofLen xs (1 + k) s).length) (ints .i64 (symsTo xs k ++ ofLen xs (1 + k) s)) ∧ Below w.heap.size w wr) (fun i _ => n - (intOf i).toNat)
          case atStart => exact ⟨0, .slice sA L sc, by omega, rfl, HC.out, HN.out, HF.out, by rw [show ofLen xs (1 + k) 0 = [] from rfl, List.append_nil]; exact Hown.out, Hbel.out⟩
          case round =>
            obtain ⟨s, v, hs, rfl, hC, hN, hF, hown, hbel⟩ := hrel
            have hv1 := own_ne hC (by decide) hown
            have hv2 := own_ne hN (by decide) hown
            have hv3 := own_ne hF (by decide) hown
            have lo := ofLen_le xs (1 + k) s
            have hszs := hbel.size
            have l1 := hC.lt
            have c48 := hC.last hm'
            have f48 := hC.frozen 48
            have HC := Lib.hid hC
            have HN := Lib.hid hN
            have HF := Lib.hid hF
            have Hown := Lib.hid hown
            have Hbel := Lib.hid hbel
            clear hC hN hF hown hbel
            by_cases hlt2 : s < n
            · obtain ⟨b, o, rfl, hcx⟩ := HR.out.2 (by omega)
              have z := kept_cell Hbel.out (hcx s hlt2)
              clear hcx
              cases hx : (rd xs s == 1 + (k : Int))
              · have hmiss := Lib.hid (ofLen_miss xs (1 + k) s (by intro e; rw [e] at hx; simp at hx))
                go_wp2
                go_roundw
                case rel => exact ⟨s + 1, v, by omega, by go_num, HC.out, HN.out, HF.out, by rw [hmiss.out]; exact Hown.out, Hbel.out⟩
                case measure => simp [intOf]; omega
              · have hhit := Lib.hid (ofLen_hit xs (1 + k) s (by have := eq_of_beq hx; rw [this]; simp))
                obtain ⟨sA2, sc2, rfl⟩ := own_slice Hown.out
                go_wp2_with (at_builtin; refine wpList_app1 rfl _ _ rfl elIntN Hown.out rfl rfl rfl rfl (by omega) (by omega) ?_; intro v' w' hown' hbel' hgrown; have q1 := hgrown.cell (kept_new c48 _) (Ne.symm hv1); have q2 := (World.frozen?_of_block (a := ⟨w1.heap.size, 48, none⟩) (hgrown.block w1.heap.size (by simp; omega) (Ne.symm hv1))).trans ((HC.out.alloc _).frozen 48); obtain ⟨sA3, sc3, rfl⟩ := own_slice hown'; have Hown' := Lib.hid hown'; have Hgrown := Lib.hid hgrown; clear hown' hgrown)
                have g1 : CoderAt w' w1.heap.size m' _ := (Hgrown.out.block w1.heap.size (by simp; omega) (Ne.symm hv1)).trans (HC.out.alloc _)
                have g2 : Blk w' w2.heap.size 175 .i64 c := (Hgrown.out.block w2.heap.size (by simp; have := HN.out.lt; omega) (Ne.symm hv2)).trans (HN.out.alloc _)
                have g3 : Blk w' w3.heap.size 178 .u64 (firstsOf c) := (Hgrown.out.block w3.heap.size (by simp; have := HF.out.lt; omega) (Ne.symm hv3)).trans (HF.out.alloc _)
                have hv4 := own_ne g1 (by decide) Hown'.out
                have G1 := Lib.hid g1
                have G2 := Lib.hid g2
                have G3 := Lib.hid g3
                have Hbel2 := Lib.hid (Hbel.out.trans hbel')
                clear g1 g2 g3 hbel'
                refine ⟨⟨_, _, _, ⟨s + 1, by omega, ?_, _, G1.out.setLast hm' _, G2.out.other ⟨w1.heap.size, 48, none⟩ _ (by show w2.heap.size ≠ w1.heap.size; omega), G3.out.other ⟨w1.heap.size, 48, none⟩ _ (by show w3.heap.size ≠ w1.heap.size; omega), ?_, Hbel2.out.setCell (p := ⟨w1.heap.size, 48, none⟩) hs1 _⟩, rfl, rfl, rfl⟩, ?_⟩
                · go_num
                · have h9 := ownsRow_setCell_other (a := ⟨w1.heap.size, 48, none⟩) Hown'.out hv4 (Value.slice sA3 (L + (ofLen xs (1 + k) s).length + 1) sc3)
                  rw [hhit.out, List.length_append, ← List.append_assoc, ints_append]
                  exact h9
                · simp [intOf]
                  omega
            · have hsn : s = n := by omega
              rw [hsn, ← hlen.out] at Hown
              have eS : symsTo xs (k + 1) = symsTo xs k ++ ofLen xs (1 + k) xs.length := by rw [Nat.add_comm 1 k]; rfl
              have ES := Lib.hid eS
              clear eS hsn
              go_wp2
              go_roundw
              case rel =>
                refine ⟨k + 1, m', v, by omega, by go_num, hm', HC.out, HN.out, HF.out, ?_, ?_, Hbel.out⟩
                · rw [ES.out, List.length_append, hlenS]
                  exact Hown.out
                · intro j h1 h2
                  by_cases e : j = k + 1
                  · subst e
                    refine ⟨?_, ?_, ?_⟩
                    · rw [Hm'.out, if_pos (by omega), Nat.add_comm 1 k]
                    · rw [Hm'.out, if_neg (by omega), if_pos (by omega), Nat.add_comm 1 k]
                    · rw [Hm'.out, if_neg (by omega), if_neg (by omega), if_pos (by omega), Nat.add_sub_cancel, hlenS]
                  · obtain ⟨q1, q2, q3⟩ := Hm.out j h1 (by omega)
                    refine ⟨?_, ?_, ?_⟩
                    · rw [Hm'.out, if_neg (by omega), if_neg (by omega), if_neg (by omega), q1]
                    · rw [Hm'.out, if_neg (by omega), if_neg (by omega), if_neg (by omega), q2]
                    · rw [Hm'.out, if_neg (by omega), if_neg (by omega), if_neg (by omega), q3]
              case measure => simp [intOf]; omega
      · have hk15 : k = 15 := by omega
        rw [hk15] at Hm Hown
        clear hk15
        go_wp2
        refine bodyPost_ret (v := .tuple #[.pointer (some ⟨w1.heap.size, 0, none⟩), .bool true]) (by simp [results, Tryd.results103, go_sem]) rfl ⟨.inr ⟨trivial, w1.heap.size, rfl, m, v, hm, hs1, HC.out, (by rw [Hcd.out]; exact Hm.out), Hown.out⟩, Hbel.out⟩
end Go.Proofs.YtendohnkhbgfbaaDoor
/-
  Plain facts: and, or of numbers; bits of bytes (no program).
-/
namespace Go.Proofs.YtendohnkhbgfbaaDoor
theorem and7_i64 (p : Nat) (hp : p < 4611686018427387904) : bits BinOp.and IntKind.i64 (p : Int) 7 = ((p % 8 : Nat) : Int) := by
  have h1 : (BitVec.ofInt 64 (p : Int)).toNat = p := by
    rw [BitVec.ofInt_natCast, BitVec.toNat_ofNat]; exact Nat.mod_eq_of_lt (by omega)
  have h2 : (BitVec.ofInt 64 (7 : Int)).toNat = 7 := by decide
  show IntKind.i64.wrap ((BitVec.ofInt 64 (p : Int) &&& BitVec.ofInt 64 (7 : Int)).toNat : Int) = _
  rw [BitVec.toNat_and, h1, h2, show (7 : Nat) = 2 ^ 3 - 1 from rfl, Nat.and_two_pow_sub_one_eq_mod]
  exact IntWalk.i64_in _ (by omega)
theorem and1_u8 (p : Nat) (hp : p < 256) : bits BinOp.and IntKind.u8 (p : Int) 1 = ((p % 2 : Nat) : Int) := by
  have h1 : (BitVec.ofInt 8 (p : Int)).toNat = p := by
    rw [BitVec.ofInt_natCast, BitVec.toNat_ofNat]; exact Nat.mod_eq_of_lt (by omega)
  have h2 : (BitVec.ofInt 8 (1 : Int)).toNat = 1 := by decide
  show IntKind.u8.wrap ((BitVec.ofInt 8 (p : Int) &&& BitVec.ofInt 8 (1 : Int)).toNat : Int) = _
  rw [BitVec.toNat_and, h1, h2, Nat.and_one_is_mod]
  exact IntWalk.u8_in _ (by omega)
theorem or_u64_top (x b k : Nat) (hx : x < 2 ^ k) (hb : b ≤ 1) (hk : k < 64) : bits BinOp.or IntKind.u64 (x : Int) ((b * 2 ^ k : Nat) : Int) = ((x + b * 2 ^ k : Nat) : Int) := by
  have hp : (2 : Nat) ^ k ≤ 2 ^ 63 := Nat.pow_le_pow_right (by omega) (by omega)
  have hp2 : (2 : Nat) ^ 63 = 9223372036854775808 := by decide
  have hb2 : b * 2 ^ k ≤ 2 ^ k := by
    have := Nat.mul_le_mul_right (2 ^ k) hb
    omega
  rw [bits_or_u64_nat x (b * 2 ^ k) (by omega) (by omega)]
  have h := Nat.two_pow_add_eq_or_of_lt hx b
  rw [Nat.mul_comm] at h
  rw [Nat.or_comm, ← h, Nat.add_comm]
end Go.Proofs.YtendohnkhbgfbaaDoor
