/-
  Append of so many zeros: append(xs, make([]T, n)...).
-/
import Derived.Test.YtempgkglhgelkaaFr
import Derived.Lib.AppendZeros
namespace Go.Proofs.Ytempgkglhgelkaa
open Go.RowKit

theorem zeroCells_one (k : IntKind) (m : Nat) : (Builtin.zeroCells (Value.int k 0).cells m).toList = ints k (List.replicate m 0) := by
  apply List.ext_getElem
  · simp [Builtin.zeroCells, ints, Value.cells]
  · intro i h1 h2
    simp [Builtin.zeroCells, ints, Value.cells, Nat.mod_one]
theorem run_appZ_room {P : Program} (w : World) (t tn ty e : TypeId) (i : TypeInfo) (k : IntKind) (ht : P.underlying t = some (.slice e)) (htn : P.underlying tn = some (.int .i64)) (hi : P.info? e = some i) (hz : i.zero = some (.int k 0)) (hs : i.size = 1)
    (g sLen sCap m : Nat) (cur : Array Value) (hg : w.heap[g]? = some (.cells cur e (0, 0))) (hroom : sLen + m ≤ sCap) (hfit : sLen + m ≤ cur.size) (h63 : (m : Int) ≤ 9223372036854775807) (h48 : m * i.bytes ≤ 281474976710656) :
    (Builtin.append_ #[t, tn] ty #[.slice (some ⟨g, 0, none⟩) sLen sCap, .int .i64 m]).run P w =
      .ok (.slice (some ⟨g, 0, none⟩) (sLen + m) sCap) (w.setRow g (cur.toList.take sLen ++ ints k (List.replicate m 0) ++ cur.toList.drop (sLen + m)).toArray) := by
  have hst := run_storeCells_at P g sLen e (ints k (List.replicate m 0)) 0 cur w hg (by simpa [ints_length] using hfit) (fun v hv => List.all_eq_true.1 (by have := ints_one k (List.replicate m 0); simpa using this) v hv)
  simp only [Nat.add_zero, ints_length, List.length_replicate] at hst
  have hw : IntKind.i64.wrap (m : Int) = m := by rw [IntKind.wrap_i64]; omega
  have hneg : ¬ ((m : Int) < 0) := by omega
  have h48i : ¬ (281474976710656 < (m : Int) * (i.bytes : Int)) := by
    rw [← Int.natCast_mul]
    omega
  by_cases h0 : m = 0
  · subst h0
    simp [ints] at hst
    have hw0 : IntKind.i64.wrap 0 = 0 := by decide
    have hroom' : sLen ≤ sCap := by omega
    simp [Builtin.append_, run_underlying ht, run_underlying htn, sizeOf, typeInfo, zeroValue, hi, hz, asInt, asIntOf, hw0, hroom', Addr.add_lit, storeCells]
    rw [show ints k [] = [] from rfl, List.nil_append, List.take_append_drop, Array.toArray_toList, setRow_self w g cur e (0, 0) hg]
  · have hzc := zeroCells_one k m
    simp [Builtin.append_, run_underlying ht, run_underlying htn, sizeOf, typeInfo, zeroValue, hi, hz, hs, asInt, asIntOf, hw, h0, hneg, h48i, hroom, Addr.add_lit, hzc, hst]
theorem run_appZ_grow {P : Program} (w : World) (t tn ty e : TypeId) (i : TypeInfo) (k : IntKind) (ht : P.underlying t = some (.slice e)) (htn : P.underlying tn = some (.int .i64)) (hi : P.info? e = some i) (hz : i.zero = some (.int k 0)) (hs : i.size = 1)
    (b : Addr) (sLen sCap m : Nat) (olds : List Value) (hlo : olds.length = sLen) (holds : ∀ j v, olds[j]? = some v → w.cell? (b.add j) = some v)
    (hg : sCap < sLen + m) (hm : 0 < m) (h63 : ((sLen + m : Nat) : Int) ≤ 9223372036854775807) (h48 : m * i.bytes ≤ 281474976710656) (hfit : Builtin.nextslicecap (sLen + m) sCap * i.bytes ≤ 281474976710656) :
    (Builtin.append_ #[t, tn] ty #[.slice (some b) sLen sCap, .int .i64 m]).run P w =
      .ok (.slice (some ⟨w.heap.size, 0, none⟩) (sLen + m) (grownCap w (sLen + m) sCap e))
        (w.drew.alloc (.cells (olds.toArray ++ Builtin.zeroCells (Value.int k 0).cells m ++ Builtin.zeroCells (Value.int k 0).cells (grownCap w (sLen + m) sCap e - (sLen + m))) e)) := by
  have hn : ¬ (sLen + m ≤ sCap) := by omega
  have h63' : ¬ (9223372036854775807 < ((sLen : Int) + (m : Int))) := by omega
  have h48' : ¬ (281474976710656 < Builtin.nextslicecap (sLen + m) sCap * i.bytes) := by omega
  have hfo := run_firstCells_some (P := P) w.drew i.size sLen b sLen sCap olds (by rw [hlo, hs, Nat.mul_one]) (by simpa using holds)
  rw [hs] at hfo
  have hw : IntKind.i64.wrap (m : Int) = m := by rw [IntKind.wrap_i64]; omega
  have hneg : ¬ ((m : Int) < 0) := by omega
  have h0 : m ≠ 0 := by omega
  have h48i : ¬ (281474976710656 < (m : Int) * (i.bytes : Int)) := by
    rw [← Int.natCast_mul]
    omega
  simp [Builtin.append_, run_underlying ht, run_underlying htn, sizeOf, typeInfo, zeroValue, hi, hz, hs, asInt, asIntOf, hw, h0, hneg, hn, h63', h48', h48i, Question.forced, hfo, newRow, grownCap]
theorem wpList_appZ {P : Program} {w : World} {ops : Array Oper} {rest : List Oper} {o : Oper} {a : Act} {Q : Exit → Act → World → Prop} (hgd : o.guard = none) (s x : Operand) {t tn : TypeId}
    (ho : o.op = .call { callee := .builtin .append, args := #[s, x], argTypes := #[t, tn] }) (htn : P.underlying tn = some (.int .i64))
    {base : Nat} {e : TypeId} {k : IntKind} {bytes : Nat} (El : ElT P t e (.int k 0) 1 bytes) {g n c : Nat} {ys : List Int} (hown : w.ownsRow base e 1 (.slice (some ⟨g, 0, none⟩) n c) n (ints k ys)) (hs : a.eval s = .slice (some ⟨g, 0, none⟩) n c)
    {m : Nat} (hx : a.eval x = .int .i64 m) (hbytes : (n + m) * bytes ≤ 140737488355328) (hbase : base ≤ w.heap.size)
    (h : ∀ v' w', w'.ownsRow base e 1 v' (n + m) (ints k (ys ++ List.replicate m 0)) → w.grownBy w' (some g) → wpList P ops Q rest (a.put o.dst v') w') : wpList P ops Q (o :: rest) a w := by
  obtain ⟨i0, hi, hz0, hz1, hz2⟩ := info_parts El.info
  have hn : n + m ≤ maxLen := by
    have := Nat.mul_le_mul_left (n + m) El.bpos
    unfold maxLen
    omega
  have hn' : n + m ≤ 9223372036854775807 := by unfold maxLen at hn; omega
  have h48 : m * i0.bytes ≤ 281474976710656 := by
    rw [hz2]
    have := Nat.mul_le_mul_right bytes (show m ≤ n + m by omega)
    omega
  have hyl : ys.length = n := by have := hown.1; rw [ints_length] at this; omega
  rcases hown.2 with ⟨h1, _⟩ | ⟨g', cap, cur, h1, hbg, hg, hnc, hcm, hcs, htake⟩
  · cases h1
  · simp at h1
    obtain ⟨rfl, rfl⟩ := h1
    by_cases hroom : n + m ≤ c
    · refine Lib.wpList_append_run w hgd s x t tn ho _ _ hs hx _ _ (run_appZ_room w t tn _ e i0 k El.und htn hi hz0 hz1 g n c m cur hg hroom (by omega) (by omega) h48) (h _ _ ?_ ?_)
      · refine ⟨by rw [ints_length, List.length_append, List.length_replicate, hyl, Nat.mul_one], .inr ⟨g, c, _, rfl, hbg, setRow_heap w g cur _ e _ hg, hroom, hcm, ?_, ?_⟩⟩
        · simp only [List.size_toArray, List.length_append, List.length_take, List.length_drop, Array.length_toList, ints_length, List.length_replicate]
          omega
        · rw [Nat.mul_one] at htake ⊢
          simp only []
          rw [htake, ← ints_append, List.take_left' (by rw [ints_length, List.length_append, List.length_replicate, hyl])]
      · exact ⟨rfl, rfl, rfl, by simp, fun q _ hq => setRow_other w g q _ (fun e => hq (by rw [e]))⟩
    · have holds : ∀ j u, (ints k ys)[j]? = some u → w.cell? ((⟨g, 0, none⟩ : Addr).add j) = some u := hown.cells (g := g) rfl
      refine Lib.wpList_append_run w hgd s x t tn ho _ _ hs hx _ _ (run_appZ_grow w t tn _ e i0 k El.und htn hi hz0 hz1 ⟨g, 0, none⟩ n c m (ints k ys) (by rw [ints_length, hyl]) holds (by omega) (by omega) (by omega) h48 (growslice_fits (by omega) (by rw [hz2]; exact hbytes))) (h _ _ ?_ ?_)
      · have hge := grownCap_ge w (n + m) c e
        have hcm' : grownCap w (n + m) c e ≤ maxLen := grownCap_le_maxLen w (n + m) c e hn
        refine ⟨by rw [ints_length, List.length_append, List.length_replicate, hyl, Nat.mul_one], .inr ⟨w.heap.size, _, _, rfl, hbase, heap_alloc_new w.drew _, hge, hcm', ?_, ?_⟩⟩
        · simp only [Array.size_append, List.size_toArray, size_zeroCells, ints_length, hyl, Value.cells, List.size_toArray, List.length_cons, List.length_nil]
          omega
        · simp only [Array.toList_append, zeroCells_one, List.append_assoc]
          rw [← List.append_assoc, ← ints_append, Nat.mul_one]
          exact List.take_left' (by rw [ints_length, List.length_append, List.length_replicate, hyl])
      · exact ⟨rfl, rfl, rfl, by simp, fun q hq _ => Below.heap_alloc w.drew _ _ hq⟩
/-- As wpList_appRd; what is appended to is no nil, so the new slice is none. -/
theorem wpList_appRd2 {P : Program} {w : World} {ops : Array Oper} {rest : List Oper} {o : Oper} {a : Act} {Q : Exit → Act → World → Prop} (hgd : o.guard = none) (s x : Operand) {t : TypeId}
    (ho : o.op = .call { callee := .builtin .append, args := #[s, x], argTypes := #[t, t] })
    {base : Nat} {e : TypeId} {k : IntKind} {bytes : Nat} (El : ElT P t e (.int k 0) 1 bytes) {g n c0 : Nat} {ys : List Int} (hown : w.ownsRow base e 1 (.slice (some ⟨g, 0, none⟩) n c0) n (ints k ys)) (hs : a.eval s = .slice (some ⟨g, 0, none⟩) n c0)
    {A : Option Addr} {m c : Nat} {zs : List Int} (hx : a.eval x = .slice A m c) (hR : Rd w k A m zs) (hA : A = none → m = 0 ∧ c = 0) (hbytes : (n + m) * bytes ≤ 140737488355328) (hbase : base ≤ w.heap.size)
    (h : ∀ g' c' w', w'.ownsRow base e 1 (.slice (some ⟨g', 0, none⟩) (n + m) c') (n + m) (ints k (ys ++ zs)) → w.grownBy w' (some g) → wpList P ops Q rest (a.put o.dst (.slice (some ⟨g', 0, none⟩) (n + m) c')) w') : wpList P ops Q (o :: rest) a w := by
  obtain ⟨i0, hi, hz0, hz1, hz2⟩ := info_parts El.info
  have hn : n + m ≤ maxLen := by
    have := Nat.mul_le_mul_left (n + m) El.bpos
    unfold maxLen
    omega
  have hl := hR.1
  cases A with
  | none =>
    obtain ⟨rfl, rfl⟩ := hA rfl
    have hz : zs = [] := List.length_eq_zero_iff.1 hl
    subst hz
    refine wpList_append_own_none hgd s x t ho base e i0 1 El.und hi _ n _ hs hown hx (h g c0 w ?_ ?_)
    · simpa using hown
    · exact ⟨rfl, rfl, rfl, Nat.le_refl _, fun _ _ _ => rfl⟩
  | some ad =>
    refine wpList_append_own _ hgd s x t ho base e i0 (.int k 0) 1 bytes El.und hi hz0 hz1 hz2 El.zs El.pos _ n _ hs hown ad m c (ints k zs) hx (by rw [ints_length]; omega) ?_ (fun u hu => ?_) hn hbytes hbase ?_
    · intro j u hu
      have hj : j < zs.length := by
        have := (List.getElem?_eq_some_iff.1 hu).1
        rwa [ints_length] at this
      obtain ⟨b, o', e', hc⟩ := hR.2 (by omega)
      cases e'
      rw [ints_get hj] at hu
      cases hu
      rw [addr_add]
      exact hc j (by omega)
    · unfold ints at hu
      obtain ⟨y, _, rfl⟩ := List.mem_map.1 hu
      rfl
    · intro v' w' h2 h3 h4
      rw [← ints_append] at h2
      rcases h2.2 with ⟨h5, _⟩ | ⟨g', cap, cur, rfl, _⟩
      · have := (h4.1 h5).1
        cases this
      · exact h g' cap w' h2 h3
end Go.Proofs.Ytempgkglhgelkaa
