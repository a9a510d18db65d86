/-
  The walks of firsts and Codes.
-/
import Derived.Test.YtempgkglhgelkaaHuffP
import Derived.Test.YtempgkglhgelkaaC
import Derived.IntWalk
namespace Go.Proofs.Ytempgkglhgelkaa
open Go.RowKit

def firstsTo (c : List Int) (k : Nat) : List Int := (List.range 16).map fun j => if j < k then firstAt c j else 0
theorem firstsTo_length (c : List Int) (k : Nat) : (firstsTo c k).length = 16 := by simp [firstsTo]
theorem rd_firstsTo (c : List Int) (k j : Nat) (h : j < 16) : rd (firstsTo c k) j = if j < k then firstAt c j else 0 := by
  rw [rd_getElem (by rw [firstsTo_length]; exact h)]
  simp [firstsTo]
theorem firstsTo_next (c : List Int) (k : Nat) (h : k < 16) : firstsTo c (k + 1) = (firstsTo c k).set k (firstAt c k) := by
  apply ext_rd (by simp [firstsTo_length])
  intro j hj
  rw [firstsTo_length] at hj
  rw [rd_set (by rw [firstsTo_length]; exact h), rd_firstsTo _ _ _ hj, rd_firstsTo _ _ _ hj]
  by_cases e : k = j
  · subst e; rw [if_pos rfl, if_pos (by omega)]
  · rw [if_neg e]
    by_cases g : j < k
    · rw [if_pos g, if_pos (by omega)]
    · rw [if_neg g, if_neg (by omega)]
theorem firstsTo_all (c : List Int) : firstsTo c 16 = firstsOf c := by
  apply ext_rd (by rw [firstsTo_length, firstsOf_length])
  intro j hj
  rw [firstsTo_length] at hj
  rw [rd_firstsTo _ _ _ hj, rd_firstsOf _ _ hj, if_pos hj]
theorem firstsTo_one (c : List Int) : firstsTo c 1 = List.replicate 16 0 := by
  apply ext_rd (by rw [firstsTo_length, List.length_replicate])
  intro j hj
  rw [firstsTo_length] at hj
  rw [rd_firstsTo _ _ _ hj]
  have : rd (List.replicate 16 (0 : Int)) j = 0 := by
    rw [rd_getElem (by rw [List.length_replicate]; exact hj), List.getElem_replicate]
  rw [this]
  split
  · have : j = 0 := by omega
    subst this; rfl
  · rfl

set_option maxHeartbeats 1000000 in
set_option maxRecDepth 200000 in
theorem firsts_calls (c : List Int) (n : Nat) (w : World) (hl : c.length = 16) (hn : n ≤ 1000000) (hc : ∀ j, j < 16 → 0 ≤ rd c j ∧ rd c j ≤ n) :
    Calls Try.prog 35 #[.agg (ints .i64 c).toArray] w fun e w' => e = .returned (.agg (ints .u64 (firstsOf c)).toArray) ∧ Below w.heap.size w w' := by
  have Hl := Lib.hid hl
  have Hc := Lib.hid hc
  clear hc
  go_enter Try.func35, Try.ntmps35
  go_wp2
  go_loopw [4, 5] (fun x i wr => ∃ k : Nat, k ≤ 15 ∧ i = .int .i64 (1 + k) ∧ x = .int .u64 (firstAt c k) ∧ Blk wr w.heap.size 59 .i64 c ∧ Blk wr (w.heap.size + 1) 64 .u64 (List.replicate 16 0) ∧ Blk wr (w.heap.size + 1 + 1) 64 .u64 (firstsTo c (1 + k)) ∧ Below w.heap.size w wr) (fun _ i _ => 16 - (intOf i).toNat)
  case atStart =>
    refine ⟨0, by omega, rfl, rfl, ?_, ?_, ?_, below_new (below_new (below_new (Below.refl _ _) (Nat.le_refl _) _) (Nat.le_refl _) _) (Nat.le_refl _) _⟩
    · exact Blk.alloc (Blk.alloc (heap_alloc_new w _) _) _
    · have h1 : Blk ((w.alloc (Obj.cells (ints .i64 c).toArray 59)).alloc (Obj.cells #[Value.int IntKind.u64 0, Value.int IntKind.u64 0, Value.int IntKind.u64 0, Value.int IntKind.u64 0, Value.int IntKind.u64 0, Value.int IntKind.u64 0, Value.int IntKind.u64 0, Value.int IntKind.u64 0, Value.int IntKind.u64 0, Value.int IntKind.u64 0, Value.int IntKind.u64 0, Value.int IntKind.u64 0, Value.int IntKind.u64 0, Value.int IntKind.u64 0, Value.int IntKind.u64 0, Value.int IntKind.u64 0] 64)) (w.heap.size + 1) 64 .u64 (List.replicate 16 0) := heap_alloc2_new _ _ _
      exact h1.alloc _
    · rw [firstsTo_one]
      have h1 : Blk (((w.alloc (Obj.cells (ints .i64 c).toArray 59)).alloc (Obj.cells #[Value.int IntKind.u64 0, Value.int IntKind.u64 0, Value.int IntKind.u64 0, Value.int IntKind.u64 0, Value.int IntKind.u64 0, Value.int IntKind.u64 0, Value.int IntKind.u64 0, Value.int IntKind.u64 0, Value.int IntKind.u64 0, Value.int IntKind.u64 0, Value.int IntKind.u64 0, Value.int IntKind.u64 0, Value.int IntKind.u64 0, Value.int IntKind.u64 0, Value.int IntKind.u64 0, Value.int IntKind.u64 0] 64)).alloc (Obj.cells #[Value.int IntKind.u64 0, Value.int IntKind.u64 0, Value.int IntKind.u64 0, Value.int IntKind.u64 0, Value.int IntKind.u64 0, Value.int IntKind.u64 0, Value.int IntKind.u64 0, Value.int IntKind.u64 0, Value.int IntKind.u64 0, Value.int IntKind.u64 0, Value.int IntKind.u64 0, Value.int IntKind.u64 0, Value.int IntKind.u64 0, Value.int IntKind.u64 0, Value.int IntKind.u64 0, Value.int IntKind.u64 0] 64)) ((w.alloc (Obj.cells (ints .i64 c).toArray 59)).heap.size + 1) 64 .u64 (List.replicate 16 0) := heap_alloc2_new _ _ _
      rw [show (w.alloc (Obj.cells (ints .i64 c).toArray 59)).heap.size = w.heap.size + 1 from by simp] at h1
      exact h1
  case round =>
    obtain ⟨k, hk, rfl, rfl, hB0, hB1, hB2, hbel⟩ := hrel
    have HB0 := Lib.hid hB0
    have HB1 := Lib.hid hB1
    have HB2 := Lib.hid hB2
    have Hbel := Lib.hid hbel
    clear hB0 hB1 hB2 hbel
    by_cases hlt : k < 15
    · have hck := HB0.out.cell (j := k) (by omega)
      have hr := Hc.out k (by omega)
      have hf := firstAt_le c n (by omega) Hc.out k (by omega)
      have hst := HB2.out.frozen (1 + k)
      have hcl := HB2.out.cell (j := 1 + k) (by rw [firstsTo_length]; omega)
      have El := Lib.hid (show firstAt c (1 + k) = 2 * (firstAt c k + rd c k) from by rw [Nat.add_comm]; rfl)
      have s1 : ((1 : Int) + k).toNat = 1 + k := by omega
      have s2 : IntKind.i64.wrap (1 + (k : Int) - 1) = k := by rw [IntWalk.i64_in _ (by omega)]; omega
      go_wp2
      go_roundw
      case rel =>
        have e1 : (firstAt c k + rd c k) * 2 = firstAt c (1 + k) := by rw [El.out]; omega
        refine ⟨k + 1, by omega, by go_num, by rw [e1, Nat.add_comm], HB0.out.other _ _ (by simp; omega), HB1.out.other _ _ (by simp), ?_, Hbel.out.setCell (by simp; omega) _⟩
        rw [show 1 + (k + 1) = 1 + k + 1 from by omega, firstsTo_next c (1 + k) (by omega), ← e1]
        exact HB2.out.set _ _
      case measure => simp [intOf]; omega
    · have hk15 : k = 15 := by omega
      rw [hk15, show 1 + 15 = 16 from rfl, firstsTo_all] at HB2
      clear hk15
      have hs : (ints .u64 (firstsOf c)).toArray.size = 16 := by rw [ints_size, firstsOf_length]
      have Hs := Lib.hid hs
      clear hs
      go_wp2_with (first
        | (refine wpList_load_row rfl 64 _ rfl (w.heap.size + 1 + 1) rfl 64 _ (0, 0) _ HB2.out Try.underlying64 rfl (by rw [Hs.out]; kernel_rfl) ?_)
        | (refine wpList_store_row rfl 64 _ _ rfl (w.heap.size + 1) _ rfl rfl 64 _ HB1.out (by rw [Hs.out]; kernel_rfl) (by rw [Hs.out]; simp [ints]) (ints_one _ _) ?_))
      have hrow := setRow_heap _ (w.heap.size + 1) _ (ints .u64 (firstsOf c)).toArray 64 _ HB1.out
      have hl := run_loadVar_row (P := Try.prog) _ (w.heap.size + 1) 64 64 _ _ _ hrow Try.underlying64 rfl (by rw [Hs.out]; kernel_rfl)
      refine bodyPost_ret (v := .agg (ints .u64 (firstsOf c)).toArray) ?_ rfl ⟨rfl, ?_⟩
      · simp [results, Try.results35, asAddr, hl, Act.put]
      · exact Hbel.out.trans ⟨rfl, rfl, rfl, by simp, fun i hi => setRow_other _ (w.heap.size + 1) i _ (by omega)⟩
end Go.Proofs.Ytempgkglhgelkaa
