/-
  Texts joined into one file: OpRow, OnceP, Same20, HeadT.
-/
import Derived.Test.YtdbkbeojedndbaaJHeadG2
import Derived.Test.YtdbkbeojedndbaaJAw202
import Derived.Stop.BytesEq
import Derived.Deep.RegionHeld3
import Derived.Test.YtdbkbeojedndbaaJHeadG7
import Derived.Test.YtdbkbeojedndbaaJHeadG8
/-
  Rows of ops.
-/
namespace Go.Proofs.Ytdbkbeojedndbaa
open Go.RowKit

def opCells (x : OpV) : List Value := [.int .i64 x.obj.1, .string x.obj.2, .string x.key, .bool x.keyed, .int .i64 x.elem.1, .string x.elem.2, .bool x.ins, .int .i64 x.act, .int .i64 x.kind, .int .u64 x.u, .int .i64 x.n, .string x.s, .slice x.pA x.pn x.pc]
def opRow (L : List OpV) : List Value := L.flatMap opCells
theorem opRow_length (L : List OpV) : (opRow L).length = L.length * 13 := by
  induction L with
  | nil => rfl
  | cons x L ih => simp [opRow, opCells] at ih ⊢; omega
theorem opRow_get : ∀ {L : List OpV} {j k : Nat} {u : Value}, j < L.length → (opCells (opv L j))[k]? = some u → (opRow L)[j * 13 + k]? = some u := by
  intro L
  induction L with
  | nil => intro j k u h; simp at h
  | cons x L ih =>
    intro j k u h hk
    have hk13 : k < 13 := (List.getElem?_eq_some_iff.1 hk).1
    have e : opRow (x :: L) = opCells x ++ opRow L := rfl
    cases j with
    | zero =>
      rw [e, Nat.zero_mul, Nat.zero_add, List.getElem?_append_left hk13]
      exact hk
    | succ j =>
      rw [e, show (j + 1) * 13 + k = 13 + (j * 13 + k) by omega, List.getElem?_append_right (by show 13 ≤ _; omega), show 13 + (j * 13 + k) - (opCells x).length = j * 13 + k by show 13 + _ - 13 = _; omega]
      exact ih (by simpa using h) hk
theorem elOp : ElT Try.prog 25 50 (.agg #[.int .i64 0, .string ByteArray.empty, .string ByteArray.empty, .bool false, .int .i64 0, .string ByteArray.empty, .bool false, .int .i64 0, .int .i64 0, .int .u64 0, .int .i64 0, .string ByteArray.empty, .slice none 0 0]) 13 152 := ⟨Try.underlying25, by kernel_rfl, rfl, by decide, by decide⟩
theorem OpsAt.of {w : World} {A : Option Addr} {n : Nat} {L : List OpV} (h : RdV w A n 13 (opRow L)) (hx : ∀ x ∈ L, OpWf x ∧ NmsAt w x.pA x.pn x.preds) : OpsAt w A n L := by
  have hl := h.1
  rw [opRow_length] at hl
  have hl' : L.length = n := by omega
  refine ⟨hl', hx, fun hn => ?_⟩
  obtain ⟨b, o, e, hc⟩ := h.2 hn
  refine ⟨b, o, e, fun j hj => ?_⟩
  have g : ∀ k u, (opCells (opv L j))[k]? = some u → w.cell? ⟨b, o + j * 13 + k, none⟩ = some u := fun k u hu => by
    have := hc _ u (opRow_get (L := L) (j := j) (k := k) (by omega) hu)
    rwa [← Nat.add_assoc] at this
  exact ⟨g 0 _ rfl, g 1 _ rfl, g 2 _ rfl, g 3 _ rfl, g 4 _ rfl, g 5 _ rfl, g 6 _ rfl, g 7 _ rfl, g 8 _ rfl, g 9 _ rfl, g 10 _ rfl, g 11 _ rfl, g 12 _ rfl⟩
end Go.Proofs.Ytdbkbeojedndbaa
/-
  Ops that speak of a table's names (no program).
-/
namespace Go.Proofs.Ytdbkbeojedndbaa
open Go.RowKit

/-- An op about an object of this actor. -/
def opOf (s : ByteArray) : OpV := ⟨(1, s), ByteArray.empty, false, (0, ByteArray.empty), false, 0, 0, 0, 0, ByteArray.empty, [], none, 0, 0⟩
theorem namesOf_opOf (s : ByteArray) : namesOf (opOf s) = [((1 : Int), s)] := rfl
theorem names_opOf (t : List ByteArray) : namesL (t.map opOf) = t.map fun s => ((1 : Int), s) := by
  induction t with
  | nil => rfl
  | cons s t ih =>
    have e : namesL ((s :: t).map opOf) = namesOf (opOf s) ++ namesL (t.map opOf) := by
      unfold namesL
      rw [List.map_cons, List.flatMap_cons]
    rw [e, ih, List.map_cons, namesOf_opOf]
    rfl
theorem opOf_wf {s : ByteArray} (h : s.size ≤ 16) : OpWf (opOf s) := by
  refine ⟨?_, ?_, ?_, ?_, ?_, ?_, ?_, ?_, ?_, ?_, ?_, ?_, ?_, ?_⟩
  · show I64 (1 : Int); exact ⟨by decide, by decide⟩
  · show I64 (0 : Int); exact ⟨by decide, by decide⟩
  · show I64 (0 : Int); exact ⟨by decide, by decide⟩
  · show I64 (0 : Int); exact ⟨by decide, by decide⟩
  · show (0 : Int) ≤ 0 ∧ (0 : Int) ≤ 18446744073709551615; exact ⟨by decide, by decide⟩
  · show I64 (0 : Int); exact ⟨by decide, by decide⟩
  · show s.size ≤ maxLen; unfold maxLen; omega
  · show ByteArray.empty.size ≤ maxLen; unfold maxLen; decide
  · show ByteArray.empty.size ≤ maxLen; unfold maxLen; decide
  · show ByteArray.empty.size ≤ maxLen; unfold maxLen; decide
  · show ByteArray.empty.size ≤ maxLen; unfold maxLen; decide
  · show (0 : Nat) ≤ 0; exact Nat.le_refl _
  · intro _; exact ⟨rfl, rfl⟩
  · intro y hy; cases hy
theorem opOf_few {s : ByteArray} (h : s.size ≤ 16) : FewAt (opOf s) := by
  refine ⟨by show 0 ≤ 40; decide, by show ByteArray.empty.size ≤ 5000; decide, by show ByteArray.empty.size ≤ 5000; decide, by show s.size ≤ 100; omega, by show ByteArray.empty.size ≤ 100; decide, fun i hi => ?_⟩
  have : i < 0 := hi
  omega
theorem chain_up {au : ByteArray} : ∀ (l p : List ByteArray), Chain au (au :: p) l → (∀ s ∈ l, s ≠ au ∧ 1 ≤ s.size ∧ s.size ≤ 16) ∧ (∀ q h, p = q ++ [h] → ∀ s ∈ l, ltB h s) ∧ l.Pairwise ltB := by
  intro l
  induction l with
  | nil => intro p _; exact ⟨fun s hs => (by cases hs), fun q h _ s hs => (by cases hs), List.Pairwise.nil⟩
  | cons s l ih =>
    intro p hc
    obtain ⟨⟨h1, h2, h3⟩, h4⟩ := hc
    rw [List.cons_append] at h4
    obtain ⟨i1, i2, i3⟩ := ih (p ++ [s]) h4
    have hs : ∀ x ∈ l, ltB s x := i2 p s rfl
    refine ⟨fun x hx => ?_, fun q h hp x hx => ?_, List.pairwise_cons.2 ⟨hs, i3⟩⟩
    · rcases List.mem_cons.1 hx with rfl | hx
      · exact ⟨fun e => h3 (.inl e), h1, h2⟩
      · exact i1 x hx
    · have hlt : ltB h s := Classical.byContradiction fun g => h3 (.inr ⟨by rw [hp]; simp, by
        rw [hp, ← List.cons_append, str_last]; exact g⟩)
      rcases List.mem_cons.1 hx with rfl | hx
      · exact hlt
      · exact ltB_trans hlt (hs x hx)
theorem table_opOf {au : ByteArray} {t : List ByteArray} (hc : Chain au [au] t) : IsTable au (namesL (t.map opOf)) (au :: t) := by
  obtain ⟨h1, _, h3⟩ := chain_up t [] hc
  refine ⟨t, rfl, h3, fun s => ?_⟩
  rw [names_opOf]
  constructor
  · intro hs
    exact ⟨(h1 s hs).1, (1, s), List.mem_map.2 ⟨s, hs, rfl⟩, rfl⟩
  · rintro ⟨_, y, hy, rfl⟩
    obtain ⟨s, hs, rfl⟩ := List.mem_map.1 hy
    exact hs
theorem putT_two {au : ByteArray} {t : List ByteArray} (h : ∀ s ∈ t, 1 ≤ s.size) : 2 * t.length ≤ (putT (au :: t)).length := by
  have e : putT (au :: t) = lebU t.length ++ t.flatMap txtB := rfl
  have h1 : ∀ l : List ByteArray, (∀ s ∈ l, 1 ≤ s.size) → 2 * l.length ≤ (l.flatMap txtB).length := by
    intro l
    induction l with
    | nil => intro _; simp
    | cons s l ih =>
      intro hs
      have a := ih (fun x hx => hs x (List.mem_cons_of_mem _ hx))
      have b := hs s List.mem_cons_self
      have c : 1 ≤ (lebU s.size).length := by
        by_cases h9 : s.size < 128
        · rw [lebU_last h9]; simp
        · rw [lebU_more h9]; simp
      rw [List.flatMap_cons, List.length_append, List.length_cons, txtB, List.length_append, nums_length]
      omega
  have h2 := h1 t h
  rw [e, List.length_append]
  omega
theorem headB_put (x : HdV) (T : List ByteArray) : (putT T).length ≤ (headB x T).length := by
  simp only [headB, List.length_append]
  omega
theorem deps_own {W : World} {base n c : Nat} {A : Option Addr} {D : List (List Int)} (ho : W.ownsRow base 67 32 (.slice A n c) n (ints .u8 D.flatten)) (hD : Hashes D) (hn : D.length = n) : DepsAt W A n c D := by
  obtain ⟨A', c', e, hc, hR, hN⟩ := own_rdV ho
  cases e
  refine ⟨hn, hD, hc, hN, fun h0 => ?_⟩
  obtain ⟨b, o, e2, hcell⟩ := hR.2 h0
  refine ⟨b, o, e2, fun i j hi hj => ?_⟩
  obtain ⟨h1, h2⟩ := flat_rd D hD i j (by omega) hj
  have h3 := hcell (i * 32 + j) (.int .u8 (rd D.flatten (i * 32 + j))) (ints_get (by rw [h2]; omega))
  rw [h1, ← Nat.add_assoc] at h3
  exact h3
end Go.Proofs.Ytdbkbeojedndbaa
/-
  The walk of the reference's Same, of changes that are alike and have no ops. Printed by gen_same20.py.
-/

namespace Go.Proofs.Ytdbkbeojedndbaa
open Go.RowKit

theorem ints_cells {l : List Int} (h : ∀ x ∈ l, 0 ≤ x ∧ x ≤ 255) : ints .u8 l = (Lib.bytesOf l).map Extern.Stop.cell := by
  unfold ints Lib.bytesOf
  rw [List.map_map]
  refine List.map_congr_left (fun x hx => ?_)
  have := h x hx
  show Value.int .u8 x = Extern.Stop.cell x.toNat.toUInt8
  unfold Extern.Stop.cell
  rw [Nat.toUInt8_eq, UInt8.toNat_ofNat_of_lt' (by show _ < 256; omega)]
  congr 1
  show x = ((x.toNat : Nat) : Int)
  omega
theorem neqHash {l : List Int} (hl : l.length = 32) (h : ∀ x ∈ l, 0 ≤ x ∧ x ≤ 255) (w : World) : (binOp .neq 67 (agg32 l) (agg32 l)).run Try.prog w = .ok (.bool false) w := by
  have e := run_eql_bytes (P := Try.prog) w 67 5 32 Try.underlying67 Try.underlying5 (fun w => by kernel_rfl) (Lib.bytesOf l) (Lib.bytesOf l) (by simp [Lib.bytesOf, hl]) (by simp [Lib.bytesOf, hl])
  rw [← ints_cells h, beq_self_eq_true] at e
  simp only [binOp] at e ⊢
  simp only [Sem.run_bind] at e ⊢
  generalize Sem.run Try.prog (Op.equal 67 (agg32 l) (agg32 l)) w = r at e ⊢
  cases r <;> simp_all
theorem exec_loadHash {o : Oper} {a : Act} {w : World} {x : Operand} {ad : Addr} {v : Value} (ho : o.op = .load 67 x) (hx : a.eval x = .pointer (some ad)) (h : (loadVar 67 ad).run Try.prog w = .ok v w) : (execOp a.eval o).run Try.prog w = .ok (.value v) w := by
  unfold execOp
  simp only [ho, hx, Instr.loadAt, Instr.sureAddr, Sem.run_bind, Sem.run_pure, Result.andThen_ok, h]
theorem guard_hash (x y : Operand) (X Y : Array Value) (w : World) : (eqGuard .neq 67 x y (.agg X) (.agg Y)).run Try.prog w = .ok () w := by kernel_rfl
theorem exec_neqHash {o : Oper} {a : Act} {w : World} {x y : Operand} {t : TypeId} {X Y : Array Value} {r : Value} (ho : o.op = .binOp .neq 67 x y t) (hx : a.eval x = .agg X) (hy : a.eval y = .agg Y) (h : (binOp .neq 67 (.agg X) (.agg Y)).run Try.prog w = .ok r w) : (execOp a.eval o).run Try.prog w = .ok (.value r) w := by
  unfold execOp
  simp only [ho, hx, hy, Sem.run_bind, Sem.run_pure, guard_hash, Result.andThen_ok, h]
theorem rSame17_nil (w : World) : Calls Try.prog 40 #[.slice none 0 0, .slice none 0 0] w fun e w' => e = .returned (.bool true) ∧ Below w.heap.size w w' := by
  go_enter Try.func40, Try.ntmps40
  go_wp2_with fail
  go_loopw [5] (fun i wr => i = .int .i64 0 ∧ wr = w) (fun _ _ => 0)
  case atStart => exact ⟨rfl, rfl⟩
  case round =>
    obtain ⟨rfl, hw⟩ := hrel
    obtain ⟨W, hW⟩ : ∃ W, W = wr := ⟨_, rfl⟩
    rw [← hW] at hw ⊢
    subst hw
    clear hW
    go_wp2_with fail
    go_ret
    exact ⟨rfl, Below.refl _ _⟩
set_option maxHeartbeats 1000000 in
set_option maxRecDepth 100000 in
theorem rSame20_calls (a : ByteArray) (sq st tm : Int) (ms : ByteArray) (A B : Option Addr) (n c d : Nat) (D : List (List Int)) (w : World) (hA : DepsAt w A n c D) (hB : DepsAt w B n d D) (hn : n ≤ 100000) (_ha : a.size ≤ 140737488355328) (_hm : ms.size ≤ 140737488355328) :
    Calls Try.prog 12 #[.agg (chgC2 a sq st tm ms (.slice A n c) (.slice none 0 0)), .agg (chgC2 a sq st tm ms (.slice B n d) (.slice none 0 0))] w fun e w' => e = .returned (.bool true) ∧ Below w.heap.size w w' := by
  have HA := Lib.hid hA
  have HB := Lib.hid hB
  have hae : (a.toList != a.toList) = false := by simp
  have hme : (ms.toList != ms.toList) = false := by simp
  clear hA hB
  go_enter Try.func12, Try.ntmps12
  go_upto_region 1 with fail
  obtain ⟨g, hg⟩ : ∃ g, g = w.heap.size := ⟨_, rfl⟩
  obtain ⟨h, hh⟩ : ∃ g, g = w.heap.size + 1 := ⟨_, rfl⟩
  obtain ⟨W, hW⟩ : ∃ X, X = (w.alloc (.cells #[.string a, .int .i64 sq, .int .i64 st, .int .i64 tm, .string ms, .slice A n c, .slice none 0 0] 27)).alloc (.cells #[.string a, .int .i64 sq, .int .i64 st, .int .i64 tm, .string ms, .slice B n d, .slice none 0 0] 27) := ⟨_, rfl⟩
  have hb : Below w.heap.size w W := by rw [hW]; exact ((Below.refl _ _).alloc (Nat.le_refl _) _).alloc (by simp) _
  have r1 : W.heap[g]? = some (.cells (chgC2 a sq st tm ms (.slice A n c) (.slice none 0 0)) 27 (0, 0)) := by
    rw [hW, hg]; exact (Below.heap_alloc _ _ _ (by simp)).trans (heap_alloc_new w _)
  have r2 : W.heap[h]? = some (.cells (chgC2 a sq st tm ms (.slice B n d) (.slice none 0 0)) 27 (0, 0)) := by
    rw [hW, hh]
    have := heap_alloc_new (w.alloc (.cells (chgC2 a sq st tm ms (.slice A n c) (.slice none 0 0)) 27)) (.cells (chgC2 a sq st tm ms (.slice B n d) (.slice none 0 0)) 27)
    simpa using this
  rw [← hW, ← hh, ← hg]
  clear hW hg hh
  have HBw := Lib.hid hb
  have a0 : W.cell? ⟨g, 0, none⟩ = some (.string a) := cell_of_row W g 0 _ _ (0, 0) r1
  have a1 : W.cell? ⟨g, 1, none⟩ = some (.int .i64 sq) := cell_of_row W g 1 _ _ (0, 0) r1
  have a2 : W.cell? ⟨g, 2, none⟩ = some (.int .i64 st) := cell_of_row W g 2 _ _ (0, 0) r1
  have a3 : W.cell? ⟨g, 3, none⟩ = some (.int .i64 tm) := cell_of_row W g 3 _ _ (0, 0) r1
  have a4 : W.cell? ⟨g, 4, none⟩ = some (.string ms) := cell_of_row W g 4 _ _ (0, 0) r1
  have a5 : W.cell? ⟨g, 5, none⟩ = some (.slice A n c) := cell_of_row W g 5 _ _ (0, 0) r1
  have a6 : W.cell? ⟨g, 6, none⟩ = some (.slice none 0 0) := cell_of_row W g 6 _ _ (0, 0) r1
  have b0 : W.cell? ⟨h, 0, none⟩ = some (.string a) := cell_of_row W h 0 _ _ (0, 0) r2
  have b1 : W.cell? ⟨h, 1, none⟩ = some (.int .i64 sq) := cell_of_row W h 1 _ _ (0, 0) r2
  have b2 : W.cell? ⟨h, 2, none⟩ = some (.int .i64 st) := cell_of_row W h 2 _ _ (0, 0) r2
  have b3 : W.cell? ⟨h, 3, none⟩ = some (.int .i64 tm) := cell_of_row W h 3 _ _ (0, 0) r2
  have b4 : W.cell? ⟨h, 4, none⟩ = some (.string ms) := cell_of_row W h 4 _ _ (0, 0) r2
  have b5 : W.cell? ⟨h, 5, none⟩ = some (.slice B n d) := cell_of_row W h 5 _ _ (0, 0) r2
  have b6 : W.cell? ⟨h, 6, none⟩ = some (.slice none 0 0) := cell_of_row W h 6 _ _ (0, 0) r2
  clear r1 r2 hb
  go_wp2_with fail
  go_loopw [5] (fun i wr => ∃ k : Nat, k ≤ n ∧ i = .int .i64 k ∧ Hid (Below W.heap.size W wr)) (fun i _ => n - (intOf i).toNat)
  case atStart => exact ⟨0, by omega, rfl, Below.refl _ _⟩
  case round =>
    obtain ⟨k, hk, rfl, HBr⟩ := hrel
    obtain ⟨Wk, hWk⟩ : ∃ W, W = wr := ⟨_, rfl⟩
    subst hWk
    have p5 := kept_cell HBr.out a5
    have q5 := kept_cell HBr.out b5
    by_cases hlt : k < n
    · obtain ⟨b1, o1, eA, hc1⟩ := ((HA.out.below HBw.out).below HBr.out).at' (by omega)
      obtain ⟨b2, o2, eB, hc2⟩ := ((HB.out.below HBw.out).below HBr.out).at' (by omega)
      subst eA eB
      have hm9 := HA.out.hs _ (dep_mem (D := D) (k := k) (by rw [HA.out.len]; exact hlt))
      obtain ⟨l, hl⟩ : ∃ l, l = dep D k := ⟨_, rfl⟩
      rw [← hl] at hm9
      have z1 : (loadVar 67 ⟨b1, o1 + k * 32, none⟩).run Try.prog Wk.drew = .ok (agg32 l) Wk.drew := run_loadHash hm9.1 (fun j hj => by rw [hl]; exact hc1 k j hlt hj)
      have z2 : (loadVar 67 ⟨b2, o2 + k * 32, none⟩).run Try.prog Wk.drew = .ok (agg32 l) Wk.drew := run_loadHash hm9.1 (fun j hj => by rw [hl]; exact hc2 k j hlt hj)
      have z3 := neqHash hm9.1 hm9.2 Wk.drew
      obtain ⟨X, hX⟩ : ∃ X, X = (ints .u8 l).toArray := ⟨_, rfl⟩
      simp only [agg32, ← hX] at z1 z2 z3
      have hk1 : (k : Int) < (n : Int) := by omega
      clear hc1 hc2 hm9 hl hX
      go_upto_region 6 with fail
      refine wp_region_noPanic ?_
      refine wp_region_held_drew (S := fun W' => W'.cell? ⟨g, 5, none⟩ = some (.slice (some ⟨b1, o1, none⟩) n c) ∧ W'.cell? ⟨h, 5, none⟩ = some (.slice (some ⟨b2, o2, none⟩) n d) ∧ (loadVar 67 ⟨b1, o1 + k * 32, none⟩).run Try.prog W' = .ok (.agg X) W' ∧ (loadVar 67 ⟨b2, o2 + k * 32, none⟩).run Try.prog W' = .ok (.agg X) W' ∧ (binOp .neq 67 (.agg X) (.agg X)).run Try.prog W' = .ok (.bool false) W') (by kernel_rfl) (⟨p5, q5, z1, z2, z3⟩) (fun hHeld => ?_)
      refine' wpAnyH_take (i := 0) (oi := ⟨_, _, _, _, _, _⟩) (v := _) rfl (by kernel_rfl) (by kernel_rfl) (by kernel_rfl) (fun _ _ _ h => h) (Or.inl ⟨by rfl, ?hya0⟩) (by assumption) ?resta0
      case hya0 => (intro w hSw; (try dsimp only at hSw); go_simp; try with_reducible rfl)
      try simp only [Act.put, List.setIfInBounds_toArray, List.set_cons_zero, List.set_cons_succ]
      refine' wpAnyH_take (i := 1) (oi := ⟨_, _, _, _, _, _⟩) (v := _) rfl (by kernel_rfl) (by kernel_rfl) (by kernel_rfl) (fun _ _ _ h => h) (Or.inl ⟨by rfl, ?hya1⟩) (by assumption) ?resta1
      case hya1 => (intro w hSw; (try dsimp only at hSw); go_simp; try with_reducible rfl)
      try simp only [Act.put, List.setIfInBounds_toArray, List.set_cons_zero, List.set_cons_succ]
      refine' wpAnyH_take (i := 2) (oi := ⟨_, _, _, _, _, _⟩) (v := _) rfl (by kernel_rfl) (by kernel_rfl) (by kernel_rfl) (fun _ _ _ h => h) (Or.inl ⟨by rfl, ?hya2⟩) (by assumption) ?resta2
      case hya2 => (intro w hSw; (try dsimp only at hSw); go_simp; try with_reducible rfl)
      try simp only [Act.put, List.setIfInBounds_toArray, List.set_cons_zero, List.set_cons_succ]
      refine' wpAnyH_take (i := 3) (oi := ⟨_, _, _, _, _, _⟩) (v := _) rfl (by kernel_rfl) (by kernel_rfl) (by kernel_rfl) (fun _ _ _ h => h) (Or.inl ⟨by rfl, ?hya3⟩) (by assumption) ?resta3
      case hya3 => (intro w hSw; (try dsimp only at hSw); go_simp; try with_reducible rfl)
      try simp only [Act.put, List.setIfInBounds_toArray, List.set_cons_zero, List.set_cons_succ]
      refine' wpAnyH_take (i := 4) (oi := ⟨_, _, _, _, _, _⟩) (v := .agg X) rfl (by kernel_rfl) (by kernel_rfl) (by kernel_rfl) (fun _ _ _ h => h) (Or.inl ⟨by rfl, ?hya4⟩) (by assumption) ?resta4
      case hya4 => (intro w hSw; exact exec_loadHash rfl rfl hSw.2.2.1)
      try simp only [Act.put, List.setIfInBounds_toArray, List.set_cons_zero, List.set_cons_succ]
      refine' wpAnyH_take (i := 5) (oi := ⟨_, _, _, _, _, _⟩) (v := _) rfl (by kernel_rfl) (by kernel_rfl) (by kernel_rfl) (fun _ _ _ h => h) (Or.inl ⟨by rfl, ?hya5⟩) (by assumption) ?resta5
      case hya5 => (intro w hSw; (try dsimp only at hSw); go_simp; try with_reducible rfl)
      try simp only [Act.put, List.setIfInBounds_toArray, List.set_cons_zero, List.set_cons_succ]
      refine' wpAnyH_take (i := 6) (oi := ⟨_, _, _, _, _, _⟩) (v := _) rfl (by kernel_rfl) (by kernel_rfl) (by kernel_rfl) (fun _ _ _ h => h) (Or.inl ⟨by rfl, ?hya6⟩) (by assumption) ?resta6
      case hya6 => (intro w hSw; (try dsimp only at hSw); go_simp; try with_reducible rfl)
      try simp only [Act.put, List.setIfInBounds_toArray, List.set_cons_zero, List.set_cons_succ]
      refine' wpAnyH_take (i := 7) (oi := ⟨_, _, _, _, _, _⟩) (v := _) rfl (by kernel_rfl) (by kernel_rfl) (by kernel_rfl) (fun _ _ _ h => h) (Or.inl ⟨by rfl, ?hya7⟩) (by assumption) ?resta7
      case hya7 => (intro w hSw; (try dsimp only at hSw); go_simp; try with_reducible rfl)
      try simp only [Act.put, List.setIfInBounds_toArray, List.set_cons_zero, List.set_cons_succ]
      refine' wpAnyH_take (i := 8) (oi := ⟨_, _, _, _, _, _⟩) (v := _) rfl (by kernel_rfl) (by kernel_rfl) (by kernel_rfl) (fun _ _ _ h => h) (Or.inl ⟨by rfl, ?hya8⟩) (by assumption) ?resta8
      case hya8 => (intro w hSw; (try dsimp only at hSw); go_simp; try with_reducible rfl)
      try simp only [Act.put, List.setIfInBounds_toArray, List.set_cons_zero, List.set_cons_succ]
      refine' wpAnyH_take (i := 9) (oi := ⟨_, _, _, _, _, _⟩) (v := .agg X) rfl (by kernel_rfl) (by kernel_rfl) (by kernel_rfl) (fun _ _ _ h => h) (Or.inl ⟨by rfl, ?hya9⟩) (by assumption) ?resta9
      case hya9 => (intro w hSw; exact exec_loadHash rfl rfl hSw.2.2.2.1)
      try simp only [Act.put, List.setIfInBounds_toArray, List.set_cons_zero, List.set_cons_succ]
      refine' wpAnyH_take (i := 10) (oi := ⟨_, _, _, _, _, _⟩) (v := .bool false) rfl (by kernel_rfl) (by kernel_rfl) (by kernel_rfl) (fun _ _ _ h => h) (Or.inl ⟨by rfl, ?hya10⟩) (by assumption) ?resta10
      case hya10 => (intro w hSw; exact exec_neqHash rfl rfl rfl hSw.2.2.2.2)
      try simp only [Act.put, List.setIfInBounds_toArray, List.set_cons_zero, List.set_cons_succ]
      refine wpAnyH_done (by kernel_rfl) ?_ _
      refine NoPanic.normal ?_
      clear hHeld z1 z2 z3
      go_wp2_with fail
      go_roundw
      case rel => exact ⟨k + 1, by omega, by go_num, Lib.hid HBr.out.drew⟩
      case measure => simp [intOf]; omega
    · obtain rfl : k = n := by omega
      have p6 := kept_cell HBr.out a6
      have q6 := kept_cell HBr.out b6
      go_wp2_with fail
      refine (rSame17_nil _).mono ?_
      rintro e w9 ⟨rfl, hb9⟩
      have HB9 := Lib.hid (below_seq (HBw.out.trans (HBr.out.mono HBw.out.size)) (Nat.le_refl _) hb9)
      clear hb9
      go_wp2_with fail
      go_ret
      exact ⟨rfl, HB9.out⟩
end Go.Proofs.Ytdbkbeojedndbaa
/-
  The walks of op.Actor and of head.Right, of what may be. Printed by gen_headt.py.
-/
namespace Go.Proofs.Ytdbkbeojedndbaa
open Go.RowKit

theorem opActor_calls (s : ByteArray) (b : Nat) (w : World) (hs : 1 ≤ s.size ∧ s.size ≤ 16) (hc : w.cell? ⟨b, 0, none⟩ = some (.string s)) :
    Calls Try.prog 49 #[.slice (some ⟨b, 0, none⟩) 1 1] w fun e w' => e = .returned (.bool true) ∧ w' = w := by
  obtain ⟨h0, h1⟩ := hs
  go_enter Try.func49, Try.ntmps49
  go_wp2_with fail
  go_loopw [7] (fun i wr => ∃ k : Nat, k ≤ 1 ∧ i = .int .i64 k ∧ wr = w) (fun i _ => 1 - (intOf i).toNat)
  case atStart => exact ⟨0, by omega, rfl, rfl⟩
  case round =>
    obtain ⟨k, hk, rfl, hw⟩ := hrel
    obtain ⟨W, hW⟩ : ∃ W, W = wr := ⟨_, rfl⟩
    rw [← hW] at hw ⊢
    subst hw
    clear hW
    rcases (show k = 0 ∨ k = 1 by omega) with rfl | rfl
    · go_wp2_with fail
      go_roundw
      case rel => exact ⟨1, by omega, rfl, trivial⟩
      case measure => simp [intOf]
    · go_wp2_with fail
      go_ret
      exact ⟨rfl, rfl⟩
theorem depsRd {w : World} {A : Option Addr} {n c : Nat} {D : List (List Int)} (h : DepsAt w A n c D) {i : Nat} (hi : i < n) : ∃ b o, A = some ⟨b, o, none⟩ ∧ Rd w .u8 (some ⟨b, o + i * 32, none⟩) 32 (dep D i) := by
  obtain ⟨b, o, e, hc⟩ := h.at' (by omega)
  exact ⟨b, o, e, (h.hs _ (dep_mem (by rw [h.len]; exact hi))).1, fun _ => ⟨b, o + i * 32, rfl, fun j hj => hc i j hi hj⟩⟩
set_option maxHeartbeats 1000000 in
set_option maxRecDepth 100000 in
theorem hRight_calls (x : HdV) (A : Option Addr) (n c : Nat) (ov : Value) (w : World) (hov : ∃ O on oc, ov = .slice O on oc) (hr : HdRight x) (hD : DepsAt w A n c x.deps) (ht : I64 x.time) :
    Calls Try.prog 19 #[.agg (chgC2 x.actor x.seq x.start x.time x.msg (.slice A n c) ov)] w fun e w' => e = .returned (.bool true) ∧ Below w.heap.size w w' := by
  obtain ⟨O, on, oc, rfl⟩ := hov
  obtain ⟨hact, hsq, hst, hms, hutf, hfew, hup⟩ := hr
  obtain ⟨a, sq, st, tm, ms, D⟩ := x
  simp only at *
  have HD := Lib.hid hD
  have hn : n ≤ 16 := by rw [← hD.len]; exact hfew
  have Hup := Lib.hid (hchain_up D [] hup).2
  have hdu : decide (Utf ms) = true := decide_eq_true hutf
  have Hact := Lib.hid hact
  obtain ⟨hq0, hq1⟩ := hsq
  obtain ⟨ht0, ht1⟩ := hst
  unfold mostN at hq1 ht1
  have hq1' : (sq : Int) ≤ 9007199254740991 := by omega
  have ht1' : (st : Int) ≤ 9007199254740991 := by omega
  have hms2 : ms.size ≤ 140737488355328 := by omega
  clear hD hup hutf hact hfew
  go_enter Try.func19, Try.ntmps19
  have Ha1 : Hid (((w.alloc (.cells (chgC2 a sq st tm ms (.slice A n c) (.slice O on oc)) 27)).alloc (.cells #[.string a] 9)).cell? ⟨w.heap.size + 1, 0, none⟩ = some (.string a)) := Lib.hid (by
    simp)
  go_wp2_with fail
  refine (opActor_calls a (w.heap.size + 1) _ Hact.out Ha1.out).mono ?_
  rintro e1 w1 ⟨rfl, hw1⟩
  obtain ⟨W1, hW1⟩ : ∃ X, X = w1 := ⟨_, rfl⟩
  obtain ⟨bc, hbc⟩ : ∃ g, g = w.heap.size := ⟨_, rfl⟩
  have hb1 : Below w.heap.size w W1 := by rw [hW1, hw1]; exact ((Below.refl _ _).alloc (Nat.le_refl _) _).alloc (by simp) _
  have hrow : W1.heap[bc]? = some (.cells (chgC2 a sq st tm ms (.slice A n c) (.slice O on oc)) 27 (0, 0)) := by
    rw [hW1, hw1, hbc]
    exact (Below.heap_alloc _ _ _ (by simp)).trans (heap_alloc_new w _)
  rw [← hW1, ← hbc]
  have HB1 := Lib.hid hb1
  have HRow := Lib.hid hrow
  have c1 : W1.cell? ⟨bc, 1, none⟩ = some (.int .i64 sq) := cell_of_row W1 bc 1 _ _ (0, 0) hrow
  have c2 : W1.cell? ⟨bc, 2, none⟩ = some (.int .i64 st) := cell_of_row W1 bc 2 _ _ (0, 0) hrow
  have c4 : W1.cell? ⟨bc, 4, none⟩ = some (.string ms) := cell_of_row W1 bc 4 _ _ (0, 0) hrow
  clear hW1 hw1 hb1 hrow hbc Ha1
  have ca : (W1.alloc (.cells #[.string ms] 9)).cell? ⟨W1.heap.size, 0, none⟩ = some (.string ms) := news_at W1 #[.string ms] _ 0 _ rfl
  have Hca := Lib.hid ca
  have HB2 : Hid (Below w.heap.size w (W1.alloc (.cells #[.string ms] 9))) := Lib.hid (below_new HB1.out (Nat.le_refl _) _)
  have HRow2 : Hid ((W1.alloc (.cells #[.string ms] 9)).heap[bc]? = some (.cells (chgC2 a sq st tm ms (.slice A n c) (.slice O on oc)) 27 (0, 0))) := Lib.hid ((Below.heap_alloc _ _ _ (Array.getElem?_eq_some_iff.1 HRow.out).1).trans HRow.out)
  clear ca
  go_wp2_with fail
  refine (uValid_calls ms W1.heap.size _ hms2 Hca.out).mono ?_
  rw [hdu]
  rintro e2 w2 ⟨rfl, hw2⟩
  obtain ⟨W2, hW2⟩ : ∃ X, X = w2 := ⟨_, rfl⟩
  have HB3 : Hid (Below w.heap.size w W2) := Lib.hid (by rw [hW2, hw2]; exact HB2.out)
  have HRow3 : Hid (W2.heap[bc]? = some (.cells (chgC2 a sq st tm ms (.slice A n c) (.slice O on oc)) 27 (0, 0))) := Lib.hid (by rw [hW2, hw2]; exact HRow2.out)
  rw [← hW2]
  clear hW2 hw2 c1 c2 c4
  have c5 : W2.cell? ⟨bc, 5, none⟩ = some (.slice A n c) := cell_of_row W2 bc 5 _ _ (0, 0) HRow3.out
  go_wp2_with fail
  go_loopw [3] (fun i wr => ∃ k : Nat, k ≤ n + 1 ∧ 1 ≤ k ∧ i = .int .i64 k ∧ Hid (Below W2.heap.size W2 wr)) (fun i _ => n + 1 - (intOf i).toNat)
  case atStart => exact ⟨1, by omega, by omega, rfl, Below.refl _ _⟩
  case round =>
    obtain ⟨k, hk, hk1, rfl, HBr⟩ := hrel
    obtain ⟨Wk, hWk⟩ : ∃ W, W = wr := ⟨_, rfl⟩
    subst hWk
    have c5k := kept_cell HBr.out c5
    by_cases hlt : k < n
    · obtain ⟨j, hj⟩ : ∃ j, k = j + 1 := ⟨k - 1, by omega⟩
      subst hj
      have HDk := Lib.hid ((HD.out.below HB3.out).below HBr.out)
      obtain ⟨b, o, eA, hr0⟩ := depsRd HDk.out (i := j) (by omega)
      obtain ⟨b', o', eA', hr1⟩ := depsRd HDk.out (i := j + 1) hlt
      rw [eA] at eA'
      cases eA'
      subst eA
      have Hr0 := Lib.hid (hr0.below (Below.refl _ _).drew)
      have Hr1 := Lib.hid (hr1.below (Below.refl _ _).drew)
      have Hlt := Lib.hid (Hup.out j (by simp) (by omega) (by simp only [List.nil_append]; rw [HD.out.len]; exact hlt) (.inr (by omega)))
      simp only [List.nil_append] at Hlt
      have Hm0 := Lib.hid (HD.out.hs _ (dep_mem (D := D) (k := j) (by rw [HD.out.len]; omega))).2
      have Hm1 := Lib.hid (HD.out.hs _ (dep_mem (D := D) (k := j + 1) (by rw [HD.out.len]; exact hlt))).2
      have hj1 : ((j + 1 : Nat) : Int) - 1 = (j : Int) := by omega
      have hj2 : (j : Int) + 1 - 1 = (j : Int) := by omega
      have hj3 : IntKind.i64.wrap (j : Int) = (j : Int) := i64_id ⟨by omega, by omega⟩
      have hj5 : (j : Int) < (n : Int) := by omega
      have hj6 : (j : Int) + 1 < (n : Int) := by omega
      have hj7 : (0 : Int) ≤ (j : Int) + 1 := by omega
      clear hr0 hr1 hk1
      go_upto_region 6 with fail
      refine wp_region_noPanic ?_
      refine wp_region_held_drew (S := fun W' => W'.cell? ⟨bc, 5, none⟩ = some (.slice (some ⟨b, o, none⟩) n c)) (by kernel_rfl) (c5k) (fun hHeld => ?_)
      refine' wpAnyH_take (i := 0) (oi := ⟨_, _, _, _, _, _⟩) (v := _) rfl (by kernel_rfl) (by kernel_rfl) (by kernel_rfl) (fun _ _ _ h => h) (Or.inl ⟨by rfl, ?hya0⟩) (by assumption) ?resta0
      case hya0 => (intro w hSw; (try dsimp only at hSw); go_simp; try with_reducible rfl)
      try simp only [Act.put, List.setIfInBounds_toArray, List.set_cons_zero, List.set_cons_succ]
      refine' wpAnyH_take (i := 1) (oi := ⟨_, _, _, _, _, _⟩) (v := _) rfl (by kernel_rfl) (by kernel_rfl) (by kernel_rfl) (fun _ _ _ h => h) (Or.inl ⟨by rfl, ?hya1⟩) (by assumption) ?resta1
      case hya1 => (intro w hSw; (try dsimp only at hSw); go_simp; try with_reducible rfl)
      try simp only [Act.put, List.setIfInBounds_toArray, List.set_cons_zero, List.set_cons_succ]
      refine' wpAnyH_take (i := 2) (oi := ⟨_, _, _, _, _, _⟩) (v := _) rfl (by kernel_rfl) (by kernel_rfl) (by kernel_rfl) (fun _ _ _ h => h) (Or.inl ⟨by rfl, ?hya2⟩) (by assumption) ?resta2
      case hya2 => (intro w hSw; (try dsimp only at hSw); go_simp; try with_reducible rfl)
      try simp only [Act.put, List.setIfInBounds_toArray, List.set_cons_zero, List.set_cons_succ]
      refine' wpAnyH_take (i := 3) (oi := ⟨_, _, _, _, _, _⟩) (v := _) rfl (by kernel_rfl) (by kernel_rfl) (by kernel_rfl) (fun _ _ _ h => h) (Or.inl ⟨by rfl, ?hya3⟩) (by assumption) ?resta3
      case hya3 => (intro w hSw; (try dsimp only at hSw); go_simp; try with_reducible rfl)
      try simp only [Act.put, List.setIfInBounds_toArray, List.set_cons_zero, List.set_cons_succ]
      refine' wpAnyH_take (i := 4) (oi := ⟨_, _, _, _, _, _⟩) (v := _) rfl (by kernel_rfl) (by kernel_rfl) (by kernel_rfl) (fun _ _ _ h => h) (Or.inl ⟨by rfl, ?hya4⟩) (by assumption) ?resta4
      case hya4 => (intro w hSw; (try dsimp only at hSw); go_simp; try with_reducible rfl)
      try simp only [Act.put, List.setIfInBounds_toArray, List.set_cons_zero, List.set_cons_succ]
      refine' wpAnyH_take (i := 5) (oi := ⟨_, _, _, _, _, _⟩) (v := _) rfl (by kernel_rfl) (by kernel_rfl) (by kernel_rfl) (fun _ _ _ h => h) (Or.inl ⟨by rfl, ?hya5⟩) (by assumption) ?resta5
      case hya5 => (intro w hSw; (try dsimp only at hSw); go_simp; try with_reducible rfl)
      try simp only [Act.put, List.setIfInBounds_toArray, List.set_cons_zero, List.set_cons_succ]
      refine' wpAnyH_take (i := 6) (oi := ⟨_, _, _, _, _, _⟩) (v := _) rfl (by kernel_rfl) (by kernel_rfl) (by kernel_rfl) (fun _ _ _ h => h) (Or.inl ⟨by rfl, ?hya6⟩) (by assumption) ?resta6
      case hya6 => (intro w hSw; (try dsimp only at hSw); go_simp; try with_reducible rfl)
      try simp only [Act.put, List.setIfInBounds_toArray, List.set_cons_zero, List.set_cons_succ]
      refine' wpAnyH_take (i := 7) (oi := ⟨_, _, _, _, _, _⟩) (v := _) rfl (by kernel_rfl) (by kernel_rfl) (by kernel_rfl) (fun _ _ _ h => h) (Or.inl ⟨by rfl, ?hya7⟩) (by assumption) ?resta7
      case hya7 => (intro w hSw; (try dsimp only at hSw); go_simp; try with_reducible rfl)
      try simp only [Act.put, List.setIfInBounds_toArray, List.set_cons_zero, List.set_cons_succ]
      refine' wpAnyH_take (i := 8) (oi := ⟨_, _, _, _, _, _⟩) (v := _) rfl (by kernel_rfl) (by kernel_rfl) (by kernel_rfl) (fun _ _ _ h => h) (Or.inl ⟨by rfl, ?hya8⟩) (by assumption) ?resta8
      case hya8 => (intro w hSw; (try dsimp only at hSw); go_simp; try with_reducible rfl)
      try simp only [Act.put, List.setIfInBounds_toArray, List.set_cons_zero, List.set_cons_succ]
      refine' wpAnyH_take (i := 9) (oi := ⟨_, _, _, _, _, _⟩) (v := _) rfl (by kernel_rfl) (by kernel_rfl) (by kernel_rfl) (fun _ _ _ h => h) (Or.inl ⟨by rfl, ?hya9⟩) (by assumption) ?resta9
      case hya9 => (intro w hSw; (try dsimp only at hSw); go_simp; try with_reducible rfl)
      try simp only [Act.put, List.setIfInBounds_toArray, List.set_cons_zero, List.set_cons_succ]
      refine' wpAnyH_take (i := 10) (oi := ⟨_, _, _, _, _, _⟩) (v := _) rfl (by kernel_rfl) (by kernel_rfl) (by kernel_rfl) (fun _ _ _ h => h) (Or.inl ⟨by rfl, ?hya10⟩) (by assumption) ?resta10
      case hya10 => (intro w hSw; (try dsimp only at hSw); go_simp; try with_reducible rfl)
      try simp only [Act.put, List.setIfInBounds_toArray, List.set_cons_zero, List.set_cons_succ]
      refine wpAnyH_ready (rs := [11]) (by kernel_rfl) (by simp) ?_
      refine AllReadyH.cons (o := ⟨_, _, _, _, _, _⟩) rfl (fun K hK => ?_) AllReadyH.nil
      go_simp
      go_at_call 28
      refine (cmp_calls (some ⟨b, o + j * 32, none⟩) (some ⟨b, o + (j + 1) * 32, none⟩) 32 32 32 32 (dep D j) (dep D (j + 1)) Wk.drew Hr0.out Hr1.out Hm0.out Hm1.out).mono ?_
      rintro e9 w9 ⟨r, rfl, Hr, hr0, hr1, rfl⟩
      have hrn : r < 0 := Hr.out.1.2 Hlt.out
      have hrd : decide (0 ≤ r) = false := decide_eq_false (by omega)
      refine hK.out _ _ (c5k) (fun hHeldN => ?_)
      clear hK K hHeld
      have hHeld := hHeldN
      clear hHeldN
      try simp only [Act.put, List.setIfInBounds_toArray, List.set_cons_zero, List.set_cons_succ]
      refine' wpAnyH_take (i := 12) (oi := ⟨_, _, _, _, _, _⟩) (v := _) rfl (by kernel_rfl) (by kernel_rfl) (by kernel_rfl) (fun _ _ _ h => h) (Or.inl ⟨by rfl, ?hyb12⟩) (by assumption) ?restb12
      case hyb12 => (intro w hSw; (try dsimp only at hSw); go_simp; try with_reducible rfl)
      try simp only [Act.put, List.setIfInBounds_toArray, List.set_cons_zero, List.set_cons_succ]
      refine wpAnyH_done (by kernel_rfl) ?_ _
      refine NoPanic.normal ?_
      clear hHeld
      go_wp2_with fail
      go_roundw
      case rel => exact ⟨j + 1 + 1, by omega, by omega, by go_num, Lib.hid HBr.out.drew⟩
      case measure => simp [intOf]; omega
    · go_wp2_with fail
      go_ret
      exact ⟨rfl, HB3.out.trans (HBr.out.mono HB3.out.size)⟩
end Go.Proofs.Ytdbkbeojedndbaa
