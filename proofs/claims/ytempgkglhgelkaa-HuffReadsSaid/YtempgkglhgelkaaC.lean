/-
  More small laws that walks use: 'make' in a region that draws.
-/
import Derived.Test.YtempgkglhgelkaaB
namespace Go.Proofs.Ytempgkglhgelkaa
open Go.RowKit

/-- 'make' as a rule for the walk: for a region that draws. -/
theorem make_rule {P : Program} {t e : TypeId} {k : IntKind} {bytes : Nat} (El : ElT P t e (.int k 0) 1 bytes) (n : Nat) (L : Int) (hL : L = n) (hbytes : bytes * n ≤ 140737488355328) :
    ∃ (o : Obj) (l : List Int), (∀ w : World, Sem.run P (Instr.makeSlice t (.int .i64 L) (.int .i64 L)) w = .ok (.slice (some ⟨w.heap.size, 0, none⟩) n n) (w.alloc o)) ∧ Hid (l = List.replicate n 0) ∧
      Hid (∀ (w : World) (g base : Nat), g = w.heap.size → base ≤ g → (w.alloc o).ownsRow base e 1 (.slice (some ⟨g, 0, none⟩) n n) n (ints k l)) := by
  obtain ⟨i0, hi, hz0, hz1, hz2⟩ := info_parts El.info
  subst hL
  have hn : n ≤ maxLen := by
    have := Nat.mul_le_mul_right n El.bpos
    unfold maxLen
    omega
  have hn' : (n : Int) ≤ 9223372036854775807 := by unfold maxLen at hn; omega
  have hb' : (i0.bytes : Int) * n ≤ 281474976710656 := by
    rw [hz2]
    have h : ((bytes * n : Nat) : Int) ≤ 281474976710656 := by omega
    rwa [Int.natCast_mul] at h
  refine ⟨Obj.cells (madeCells (Value.int k 0).cells (n * i0.size)) e, List.replicate n 0, fun w => ?_, rfl, ?_⟩
  · have hr := run_make (P := P) w t e i0 (.int k 0) El.und hi hz0 .i64 .i64 n n (by omega) (Int.le_refl _) hb' hn'
    simp only [Int.toNat_natCast] at hr
    exact hr
  · show ∀ (w : World) (g base : Nat), g = w.heap.size → base ≤ g → _
    intro w g base hg hbase
    subst hg
    have hz : i0.size = 1 := hz1
    have e1 : (madeCells (Value.int k 0).cells (n * i0.size)).toList = ints k (List.replicate n 0) := by
      rw [hz, Nat.mul_one]
      show (madeCells #[Value.int k 0] n).toList = _
      rw [toList_madeCells_one]
      simp [ints]
    rw [← e1]
    exact World.ownsRow_lit w _ n hbase hn (by rw [size_madeCells, hz])
end Go.Proofs.Ytempgkglhgelkaa
