/-
  Texts joined into one file: OpRow, OnceP, HeadT, Same20, Last.
-/
import Derived.Test.YtdbkbeojedndbaaJHeadG2
import Derived.Test.YtdbkbeojedndbaaJAw202
import Derived.Test.YtdbkbeojedndbaaJHeadG7
import Derived.Test.YtdbkbeojedndbaaJHeadG8
import Derived.Deep.RegionHeld3
import Derived.Stop.BytesEq
import Derived.Test.YtdbkbeojedndbaaJHeadG1
/-
  Rows of ops.
-/
namespace Go.Proofs.Ytdbkbeojedndbaa
open Go.RowKit

def opCells (x : OpV) : List Value := [.int .i64 x.obj.1, .string x.obj.2, .string x.key, .bool x.keyed, .int .i64 x.elem.1, .string x.elem.2, .bool x.ins, .int .i64 x.act, .int .i64 x.kind, .int .u64 x.u, .int .i64 x.n, .string x.s, .slice x.pA x.pn x.pc]
def opRow (L : List OpV) : List Value := L.flatMap opCells
theorem opRow_length (L : List OpV) : (opRow L).length = L.length * 13 := by
  induction L with
  | nil => rfl
  | cons x L ih => simp [opRow, opCells] at ih ⊢; omega
theorem opRow_get : ∀ {L : List OpV} {j k : Nat} {u : Value}, j < L.length → (opCells (opv L j))[k]? = some u → (opRow L)[j * 13 + k]? = some u := by
  intro L
  induction L with
  | nil => intro j k u h; simp at h
  | cons x L ih =>
    intro j k u h hk
    have hk13 : k < 13 := (List.getElem?_eq_some_iff.1 hk).1
    have e : opRow (x :: L) = opCells x ++ opRow L := rfl
    cases j with
    | zero =>
      rw [e, Nat.zero_mul, Nat.zero_add, List.getElem?_append_left hk13]
      exact hk
    | succ j =>
      rw [e, show (j + 1) * 13 + k = 13 + (j * 13 + k) by omega, List.getElem?_append_right (by show 13 ≤ _; omega), show 13 + (j * 13 + k) - (opCells x).length = j * 13 + k by show 13 + _ - 13 = _; omega]
      exact ih (by simpa using h) hk
theorem elOp : ElT Try.prog 25 50 (.agg #[.int .i64 0, .string ByteArray.empty, .string ByteArray.empty, .bool false, .int .i64 0, .string ByteArray.empty, .bool false, .int .i64 0, .int .i64 0, .int .u64 0, .int .i64 0, .string ByteArray.empty, .slice none 0 0]) 13 152 := ⟨Try.underlying25, by kernel_rfl, rfl, by decide, by decide⟩
theorem OpsAt.of {w : World} {A : Option Addr} {n : Nat} {L : List OpV} (h : RdV w A n 13 (opRow L)) (hx : ∀ x ∈ L, OpWf x ∧ NmsAt w x.pA x.pn x.preds) : OpsAt w A n L := by
  have hl := h.1
  rw [opRow_length] at hl
  have hl' : L.length = n := by omega
  refine ⟨hl', hx, fun hn => ?_⟩
  obtain ⟨b, o, e, hc⟩ := h.2 hn
  refine ⟨b, o, e, fun j hj => ?_⟩
  have g : ∀ k u, (opCells (opv L j))[k]? = some u → w.cell? ⟨b, o + j * 13 + k, none⟩ = some u := fun k u hu => by
    have := hc _ u (opRow_get (L := L) (j := j) (k := k) (by omega) hu)
    rwa [← Nat.add_assoc] at this
  exact ⟨g 0 _ rfl, g 1 _ rfl, g 2 _ rfl, g 3 _ rfl, g 4 _ rfl, g 5 _ rfl, g 6 _ rfl, g 7 _ rfl, g 8 _ rfl, g 9 _ rfl, g 10 _ rfl, g 11 _ rfl, g 12 _ rfl⟩
end Go.Proofs.Ytdbkbeojedndbaa
/-
  Ops that speak of a table's names (no program).
-/
namespace Go.Proofs.Ytdbkbeojedndbaa
open Go.RowKit

/-- An op about an object of this actor. -/
def opOf (s : ByteArray) : OpV := ⟨(1, s), ByteArray.empty, false, (0, ByteArray.empty), false, 0, 0, 0, 0, ByteArray.empty, [], none, 0, 0⟩
theorem namesOf_opOf (s : ByteArray) : namesOf (opOf s) = [((1 : Int), s)] := rfl
theorem names_opOf (t : List ByteArray) : namesL (t.map opOf) = t.map fun s => ((1 : Int), s) := by
  induction t with
  | nil => rfl
  | cons s t ih =>
    have e : namesL ((s :: t).map opOf) = namesOf (opOf s) ++ namesL (t.map opOf) := by
      unfold namesL
      rw [List.map_cons, List.flatMap_cons]
    rw [e, ih, List.map_cons, namesOf_opOf]
    rfl
theorem opOf_wf {s : ByteArray} (h : s.size ≤ 16) : OpWf (opOf s) := by
  refine ⟨?_, ?_, ?_, ?_, ?_, ?_, ?_, ?_, ?_, ?_, ?_, ?_, ?_, ?_⟩
  · show I64 (1 : Int); exact ⟨by decide, by decide⟩
  · show I64 (0 : Int); exact ⟨by decide, by decide⟩
  · show I64 (0 : Int); exact ⟨by decide, by decide⟩
  · show I64 (0 : Int); exact ⟨by decide, by decide⟩
  · show (0 : Int) ≤ 0 ∧ (0 : Int) ≤ 18446744073709551615; exact ⟨by decide, by decide⟩
  · show I64 (0 : Int); exact ⟨by decide, by decide⟩
  · show s.size ≤ maxLen; unfold maxLen; omega
  · show ByteArray.empty.size ≤ maxLen; unfold maxLen; decide
  · show ByteArray.empty.size ≤ maxLen; unfold maxLen; decide
  · show ByteArray.empty.size ≤ maxLen; unfold maxLen; decide
  · show ByteArray.empty.size ≤ maxLen; unfold maxLen; decide
  · show (0 : Nat) ≤ 0; exact Nat.le_refl _
  · intro _; exact ⟨rfl, rfl⟩
  · intro y hy; cases hy
theorem opOf_few {s : ByteArray} (h : s.size ≤ 16) : FewAt (opOf s) := by
  refine ⟨by show 0 ≤ 40; decide, by show ByteArray.empty.size ≤ 5000; decide, by show ByteArray.empty.size ≤ 5000; decide, by show s.size ≤ 100; omega, by show ByteArray.empty.size ≤ 100; decide, fun i hi => ?_⟩
  have : i < 0 := hi
  omega
theorem chain_up {au : ByteArray} : ∀ (l p : List ByteArray), Chain au (au :: p) l → (∀ s ∈ l, s ≠ au ∧ 1 ≤ s.size ∧ s.size ≤ 16) ∧ (∀ q h, p = q ++ [h] → ∀ s ∈ l, ltB h s) ∧ l.Pairwise ltB := by
  intro l
  induction l with
  | nil => intro p _; exact ⟨fun s hs => (by cases hs), fun q h _ s hs => (by cases hs), List.Pairwise.nil⟩
  | cons s l ih =>
    intro p hc
    obtain ⟨⟨h1, h2, h3⟩, h4⟩ := hc
    rw [List.cons_append] at h4
    obtain ⟨i1, i2, i3⟩ := ih (p ++ [s]) h4
    have hs : ∀ x ∈ l, ltB s x := i2 p s rfl
    refine ⟨fun x hx => ?_, fun q h hp x hx => ?_, List.pairwise_cons.2 ⟨hs, i3⟩⟩
    · rcases List.mem_cons.1 hx with rfl | hx
      · exact ⟨fun e => h3 (.inl e), h1, h2⟩
      · exact i1 x hx
    · have hlt : ltB h s := Classical.byContradiction fun g => h3 (.inr ⟨by rw [hp]; simp, by
        rw [hp, ← List.cons_append, str_last]; exact g⟩)
      rcases List.mem_cons.1 hx with rfl | hx
      · exact hlt
      · exact ltB_trans hlt (hs x hx)
theorem table_opOf {au : ByteArray} {t : List ByteArray} (hc : Chain au [au] t) : IsTable au (namesL (t.map opOf)) (au :: t) := by
  obtain ⟨h1, _, h3⟩ := chain_up t [] hc
  refine ⟨t, rfl, h3, fun s => ?_⟩
  rw [names_opOf]
  constructor
  · intro hs
    exact ⟨(h1 s hs).1, (1, s), List.mem_map.2 ⟨s, hs, rfl⟩, rfl⟩
  · rintro ⟨_, y, hy, rfl⟩
    obtain ⟨s, hs, rfl⟩ := List.mem_map.1 hy
    exact hs
theorem putT_two {au : ByteArray} {t : List ByteArray} (h : ∀ s ∈ t, 1 ≤ s.size) : 2 * t.length ≤ (putT (au :: t)).length := by
  have e : putT (au :: t) = lebU t.length ++ t.flatMap txtB := rfl
  have h1 : ∀ l : List ByteArray, (∀ s ∈ l, 1 ≤ s.size) → 2 * l.length ≤ (l.flatMap txtB).length := by
    intro l
    induction l with
    | nil => intro _; simp
    | cons s l ih =>
      intro hs
      have a := ih (fun x hx => hs x (List.mem_cons_of_mem _ hx))
      have b := hs s List.mem_cons_self
      have c : 1 ≤ (lebU s.size).length := by
        by_cases h9 : s.size < 128
        · rw [lebU_last h9]; simp
        · rw [lebU_more h9]; simp
      rw [List.flatMap_cons, List.length_append, List.length_cons, txtB, List.length_append, nums_length]
      omega
  have h2 := h1 t h
  rw [e, List.length_append]
  omega
theorem headB_put (x : HdV) (T : List ByteArray) : (putT T).length ≤ (headB x T).length := by
  simp only [headB, List.length_append]
  omega
theorem deps_own {W : World} {base n c : Nat} {A : Option Addr} {D : List (List Int)} (ho : W.ownsRow base 67 32 (.slice A n c) n (ints .u8 D.flatten)) (hD : Hashes D) (hn : D.length = n) : DepsAt W A n c D := by
  obtain ⟨A', c', e, hc, hR, hN⟩ := own_rdV ho
  cases e
  refine ⟨hn, hD, hc, hN, fun h0 => ?_⟩
  obtain ⟨b, o, e2, hcell⟩ := hR.2 h0
  refine ⟨b, o, e2, fun i j hi hj => ?_⟩
  obtain ⟨h1, h2⟩ := flat_rd D hD i j (by omega) hj
  have h3 := hcell (i * 32 + j) (.int .u8 (rd D.flatten (i * 32 + j))) (ints_get (by rw [h2]; omega))
  rw [h1, ← Nat.add_assoc] at h3
  exact h3
end Go.Proofs.Ytdbkbeojedndbaa
/-
  The walks of op.Actor and of head.Right, of what may be. Printed by gen_headt.py.
-/
namespace Go.Proofs.Ytdbkbeojedndbaa
open Go.RowKit

theorem opActor_calls (s : ByteArray) (b : Nat) (w : World) (hs : 1 ≤ s.size ∧ s.size ≤ 16) (hc : w.cell? ⟨b, 0, none⟩ = some (.string s)) :
    Calls Try.prog 49 #[.slice (some ⟨b, 0, none⟩) 1 1] w fun e w' => e = .returned (.bool true) ∧ w' = w := by
  obtain ⟨h0, h1⟩ := hs
  go_enter Try.func49, Try.ntmps49
  go_wp2_with fail
  go_loopw [7] (fun i wr => ∃ k : Nat, k ≤ 1 ∧ i = .int .i64 k ∧ wr = w) (fun i _ => 1 - (intOf i).toNat)
  case atStart => exact ⟨0, by omega, rfl, rfl⟩
  case round =>
    obtain ⟨k, hk, rfl, hw⟩ := hrel
    obtain ⟨W, hW⟩ : ∃ W, W = wr := ⟨_, rfl⟩
    rw [← hW] at hw ⊢
    subst hw
    clear hW
    rcases (show k = 0 ∨ k = 1 by omega) with rfl | rfl
    · go_wp2_with fail
      go_roundw
      case rel => exact ⟨1, by omega, rfl, trivial⟩
      case measure => simp [intOf]
    · go_wp2_with fail
      go_ret
      exact ⟨rfl, rfl⟩
theorem depsRd {w : World} {A : Option Addr} {n c : Nat} {D : List (List Int)} (h : DepsAt w A n c D) {i : Nat} (hi : i < n) : ∃ b o, A = some ⟨b, o, none⟩ ∧ Rd w .u8 (some ⟨b, o + i * 32, none⟩) 32 (dep D i) := by
  obtain ⟨b, o, e, hc⟩ := h.at' (by omega)
  exact ⟨b, o, e, (h.hs _ (dep_mem (by rw [h.len]; exact hi))).1, fun _ => ⟨b, o + i * 32, rfl, fun j hj => hc i j hi hj⟩⟩
set_option maxHeartbeats 1000000 in
set_option maxRecDepth 100000 in
theorem hRight_calls (x : HdV) (A : Option Addr) (n c : Nat) (ov : Value) (w : World) (hov : ∃ O on oc, ov = .slice O on oc) (hr : HdRight x) (hD : DepsAt w A n c x.deps) (ht : I64 x.time) :
    Calls Try.prog 19 #[.agg (chgC2 x.actor x.seq x.start x.time x.msg (.slice A n c) ov)] w fun e w' => e = .returned (.bool true) ∧ Below w.heap.size w w' := by
  obtain ⟨O, on, oc, rfl⟩ := hov
  obtain ⟨hact, hsq, hst, hms, hutf, hfew, hup⟩ := hr
  obtain ⟨a, sq, st, tm, ms, D⟩ := x
  simp only at *
  have HD := Lib.hid hD
  have hn : n ≤ 16 := by rw [← hD.len]; exact hfew
  have Hup := Lib.hid (hchain_up D [] hup).2
  have hdu : decide (Utf ms) = true := decide_eq_true hutf
  have Hact := Lib.hid hact
  obtain ⟨hq0, hq1⟩ := hsq
  obtain ⟨ht0, ht1⟩ := hst
  unfold mostN at hq1 ht1
  have hq1' : (sq : Int) ≤ 9007199254740991 := by omega
  have ht1' : (st : Int) ≤ 9007199254740991 := by omega
  have hms2 : ms.size ≤ 140737488355328 := by omega
  clear hD hup hutf hact hfew
  go_enter Try.func19, Try.ntmps19
  have Ha1 : Hid (((w.alloc (.cells (chgC2 a sq st tm ms (.slice A n c) (.slice O on oc)) 27)).alloc (.cells #[.string a] 9)).cell? ⟨w.heap.size + 1, 0, none⟩ = some (.string a)) := Lib.hid (by
    simp)
  go_wp2_with fail
  refine (opActor_calls a (w.heap.size + 1) _ Hact.out Ha1.out).mono ?_
  rintro e1 w1 ⟨rfl, hw1⟩
  obtain ⟨W1, hW1⟩ : ∃ X, X = w1 := ⟨_, rfl⟩
  obtain ⟨bc, hbc⟩ : ∃ g, g = w.heap.size := ⟨_, rfl⟩
  have hb1 : Below w.heap.size w W1 := by rw [hW1, hw1]; exact ((Below.refl _ _).alloc (Nat.le_refl _) _).alloc (by simp) _
  have hrow : W1.heap[bc]? = some (.cells (chgC2 a sq st tm ms (.slice A n c) (.slice O on oc)) 27 (0, 0)) := by
    rw [hW1, hw1, hbc]
    exact (Below.heap_alloc _ _ _ (by simp)).trans (heap_alloc_new w _)
  rw [← hW1, ← hbc]
  have HB1 := Lib.hid hb1
  have HRow := Lib.hid hrow
  have c1 : W1.cell? ⟨bc, 1, none⟩ = some (.int .i64 sq) := cell_of_row W1 bc 1 _ _ (0, 0) hrow
  have c2 : W1.cell? ⟨bc, 2, none⟩ = some (.int .i64 st) := cell_of_row W1 bc 2 _ _ (0, 0) hrow
  have c4 : W1.cell? ⟨bc, 4, none⟩ = some (.string ms) := cell_of_row W1 bc 4 _ _ (0, 0) hrow
  clear hW1 hw1 hb1 hrow hbc Ha1
  have ca : (W1.alloc (.cells #[.string ms] 9)).cell? ⟨W1.heap.size, 0, none⟩ = some (.string ms) := news_at W1 #[.string ms] _ 0 _ rfl
  have Hca := Lib.hid ca
  have HB2 : Hid (Below w.heap.size w (W1.alloc (.cells #[.string ms] 9))) := Lib.hid (below_new HB1.out (Nat.le_refl _) _)
  have HRow2 : Hid ((W1.alloc (.cells #[.string ms] 9)).heap[bc]? = some (.cells (chgC2 a sq st tm ms (.slice A n c) (.slice O on oc)) 27 (0, 0))) := Lib.hid ((Below.heap_alloc _ _ _ (Array.getElem?_eq_some_iff.1 HRow.out).1).trans HRow.out)
  clear ca
  go_wp2_with fail
  refine (uValid_calls ms W1.heap.size _ hms2 Hca.out).mono ?_
  rw [hdu]
  rintro e2 w2 ⟨rfl, hw2⟩
  obtain ⟨W2, hW2⟩ : ∃ X, X = w2 := ⟨_, rfl⟩
  have HB3 : Hid (Below w.heap.size w W2) := Lib.hid (by rw [hW2, hw2]; exact HB2.out)
  have HRow3 : Hid (W2.heap[bc]? = some (.cells (chgC2 a sq st tm ms (.slice A n c) (.slice O on oc)) 27 (0, 0))) := Lib.hid (by rw [hW2, hw2]; exact HRow2.out)
  rw [← hW2]
  clear hW2 hw2 c1 c2 c4
  have c5 : W2.cell? ⟨bc, 5, none⟩ = some (.slice A n c) := cell_of_row W2 bc 5 _ _ (0, 0) HRow3.out
  go_wp2_with fail
  go_loopw [3] (fun i wr => ∃ k : Nat, k ≤ n + 1 ∧ 1 ≤ k ∧ i = .int .i64 k ∧ Hid (Below W2.heap.size W2 wr)) (fun i _ => n + 1 - (intOf i).toNat)
  case atStart => exact ⟨1, by omega, by omega, rfl, Below.refl _ _⟩
  case round =>
    obtain ⟨k, hk, hk1, rfl, HBr⟩ := hrel
    obtain ⟨Wk, hWk⟩ : ∃ W, W = wr := ⟨_, rfl⟩
    subst hWk
    have c5k := kept_cell HBr.out c5
    by_cases hlt : k < n
    · obtain ⟨j, hj⟩ : ∃ j, k = j + 1 := ⟨k - 1, by omega⟩
      subst hj
      have HDk := Lib.hid ((HD.out.below HB3.out).below HBr.out)
      obtain ⟨b, o, eA, hr0⟩ := depsRd HDk.out (i := j) (by omega)
      obtain ⟨b', o', eA', hr1⟩ := depsRd HDk.out (i := j + 1) hlt
      rw [eA] at eA'
      cases eA'
      subst eA
      have Hr0 := Lib.hid (hr0.below (Below.refl _ _).drew)
      have Hr1 := Lib.hid (hr1.below (Below.refl _ _).drew)
      have Hlt := Lib.hid (Hup.out j (by simp) (by omega) (by simp only [List.nil_append]; rw [HD.out.len]; exact hlt) (.inr (by omega)))
      simp only [List.nil_append] at Hlt
      have Hm0 := Lib.hid (HD.out.hs _ (dep_mem (D := D) (k := j) (by rw [HD.out.len]; omega))).2
      have Hm1 := Lib.hid (HD.out.hs _ (dep_mem (D := D) (k := j + 1) (by rw [HD.out.len]; exact hlt))).2
      have hj1 : ((j + 1 : Nat) : Int) - 1 = (j : Int) := by omega
      have hj2 : (j : Int) + 1 - 1 = (j : Int) := by omega
      have hj3 : IntKind.i64.wrap (j : Int) = (j : Int) := i64_id ⟨by omega, by omega⟩
      have hj5 : (j : Int) < (n : Int) := by omega
      have hj6 : (j : Int) + 1 < (n : Int) := by omega
      have hj7 : (0 : Int) ≤ (j : Int) + 1 := by omega
      clear hr0 hr1 hk1
      go_upto_region 6 with fail
      refine wp_region_noPanic ?_
      refine wp_region_held_drew (S := fun W' => W'.cell? ⟨bc, 5, none⟩ = some (.slice (some ⟨b, o, none⟩) n c)) (by kernel_rfl) (c5k) (fun hHeld => ?_)
      refine' wpAnyH_take (i := 0) (oi := ⟨_, _, _, _, _, _⟩) (v := _) rfl (by kernel_rfl) (by kernel_rfl) (by kernel_rfl) (fun _ _ _ h => h) (Or.inl ⟨by rfl, ?hya0⟩) (by assumption) ?resta0
      case hya0 => (intro w hSw; (try dsimp only at hSw); go_simp; try with_reducible rfl)
      try simp only [Act.put, List.setIfInBounds_toArray, List.set_cons_zero, List.set_cons_succ]
      refine' wpAnyH_take (i := 1) (oi := ⟨_, _, _, _, _, _⟩) (v := _) rfl (by kernel_rfl) (by kernel_rfl) (by kernel_rfl) (fun _ _ _ h => h) (Or.inl ⟨by rfl, ?hya1⟩) (by assumption) ?resta1
      case hya1 => (intro w hSw; (try dsimp only at hSw); go_simp; try with_reducible rfl)
      try simp only [Act.put, List.setIfInBounds_toArray, List.set_cons_zero, List.set_cons_succ]
      refine' wpAnyH_take (i := 2) (oi := ⟨_, _, _, _, _, _⟩) (v := _) rfl (by kernel_rfl) (by kernel_rfl) (by kernel_rfl) (fun _ _ _ h => h) (Or.inl ⟨by rfl, ?hya2⟩) (by assumption) ?resta2
      case hya2 => (intro w hSw; (try dsimp only at hSw); go_simp; try with_reducible rfl)
      try simp only [Act.put, List.setIfInBounds_toArray, List.set_cons_zero, List.set_cons_succ]
      refine' wpAnyH_take (i := 3) (oi := ⟨_, _, _, _, _, _⟩) (v := _) rfl (by kernel_rfl) (by kernel_rfl) (by kernel_rfl) (fun _ _ _ h => h) (Or.inl ⟨by rfl, ?hya3⟩) (by assumption) ?resta3
      case hya3 => (intro w hSw; (try dsimp only at hSw); go_simp; try with_reducible rfl)
      try simp only [Act.put, List.setIfInBounds_toArray, List.set_cons_zero, List.set_cons_succ]
      refine' wpAnyH_take (i := 4) (oi := ⟨_, _, _, _, _, _⟩) (v := _) rfl (by kernel_rfl) (by kernel_rfl) (by kernel_rfl) (fun _ _ _ h => h) (Or.inl ⟨by rfl, ?hya4⟩) (by assumption) ?resta4
      case hya4 => (intro w hSw; (try dsimp only at hSw); go_simp; try with_reducible rfl)
      try simp only [Act.put, List.setIfInBounds_toArray, List.set_cons_zero, List.set_cons_succ]
      refine' wpAnyH_take (i := 5) (oi := ⟨_, _, _, _, _, _⟩) (v := _) rfl (by kernel_rfl) (by kernel_rfl) (by kernel_rfl) (fun _ _ _ h => h) (Or.inl ⟨by rfl, ?hya5⟩) (by assumption) ?resta5
      case hya5 => (intro w hSw; (try dsimp only at hSw); go_simp; try with_reducible rfl)
      try simp only [Act.put, List.setIfInBounds_toArray, List.set_cons_zero, List.set_cons_succ]
      refine' wpAnyH_take (i := 6) (oi := ⟨_, _, _, _, _, _⟩) (v := _) rfl (by kernel_rfl) (by kernel_rfl) (by kernel_rfl) (fun _ _ _ h => h) (Or.inl ⟨by rfl, ?hya6⟩) (by assumption) ?resta6
      case hya6 => (intro w hSw; (try dsimp only at hSw); go_simp; try with_reducible rfl)
      try simp only [Act.put, List.setIfInBounds_toArray, List.set_cons_zero, List.set_cons_succ]
      refine' wpAnyH_take (i := 7) (oi := ⟨_, _, _, _, _, _⟩) (v := _) rfl (by kernel_rfl) (by kernel_rfl) (by kernel_rfl) (fun _ _ _ h => h) (Or.inl ⟨by rfl, ?hya7⟩) (by assumption) ?resta7
      case hya7 => (intro w hSw; (try dsimp only at hSw); go_simp; try with_reducible rfl)
      try simp only [Act.put, List.setIfInBounds_toArray, List.set_cons_zero, List.set_cons_succ]
      refine' wpAnyH_take (i := 8) (oi := ⟨_, _, _, _, _, _⟩) (v := _) rfl (by kernel_rfl) (by kernel_rfl) (by kernel_rfl) (fun _ _ _ h => h) (Or.inl ⟨by rfl, ?hya8⟩) (by assumption) ?resta8
      case hya8 => (intro w hSw; (try dsimp only at hSw); go_simp; try with_reducible rfl)
      try simp only [Act.put, List.setIfInBounds_toArray, List.set_cons_zero, List.set_cons_succ]
      refine' wpAnyH_take (i := 9) (oi := ⟨_, _, _, _, _, _⟩) (v := _) rfl (by kernel_rfl) (by kernel_rfl) (by kernel_rfl) (fun _ _ _ h => h) (Or.inl ⟨by rfl, ?hya9⟩) (by assumption) ?resta9
      case hya9 => (intro w hSw; (try dsimp only at hSw); go_simp; try with_reducible rfl)
      try simp only [Act.put, List.setIfInBounds_toArray, List.set_cons_zero, List.set_cons_succ]
      refine' wpAnyH_take (i := 10) (oi := ⟨_, _, _, _, _, _⟩) (v := _) rfl (by kernel_rfl) (by kernel_rfl) (by kernel_rfl) (fun _ _ _ h => h) (Or.inl ⟨by rfl, ?hya10⟩) (by assumption) ?resta10
      case hya10 => (intro w hSw; (try dsimp only at hSw); go_simp; try with_reducible rfl)
      try simp only [Act.put, List.setIfInBounds_toArray, List.set_cons_zero, List.set_cons_succ]
      refine wpAnyH_ready (rs := [11]) (by kernel_rfl) (by simp) ?_
      refine AllReadyH.cons (o := ⟨_, _, _, _, _, _⟩) rfl (fun K hK => ?_) AllReadyH.nil
      go_simp
      go_at_call 28
      refine (cmp_calls (some ⟨b, o + j * 32, none⟩) (some ⟨b, o + (j + 1) * 32, none⟩) 32 32 32 32 (dep D j) (dep D (j + 1)) Wk.drew Hr0.out Hr1.out Hm0.out Hm1.out).mono ?_
      rintro e9 w9 ⟨r, rfl, Hr, hr0, hr1, rfl⟩
      have hrn : r < 0 := Hr.out.1.2 Hlt.out
      have hrd : decide (0 ≤ r) = false := decide_eq_false (by omega)
      refine hK.out _ _ (c5k) (fun hHeldN => ?_)
      clear hK K hHeld
      have hHeld := hHeldN
      clear hHeldN
      try simp only [Act.put, List.setIfInBounds_toArray, List.set_cons_zero, List.set_cons_succ]
      refine' wpAnyH_take (i := 12) (oi := ⟨_, _, _, _, _, _⟩) (v := _) rfl (by kernel_rfl) (by kernel_rfl) (by kernel_rfl) (fun _ _ _ h => h) (Or.inl ⟨by rfl, ?hyb12⟩) (by assumption) ?restb12
      case hyb12 => (intro w hSw; (try dsimp only at hSw); go_simp; try with_reducible rfl)
      try simp only [Act.put, List.setIfInBounds_toArray, List.set_cons_zero, List.set_cons_succ]
      refine wpAnyH_done (by kernel_rfl) ?_ _
      refine NoPanic.normal ?_
      clear hHeld
      go_wp2_with fail
      go_roundw
      case rel => exact ⟨j + 1 + 1, by omega, by omega, by go_num, Lib.hid HBr.out.drew⟩
      case measure => simp [intOf]; omega
    · go_wp2_with fail
      go_ret
      exact ⟨rfl, HB3.out.trans (HBr.out.mono HB3.out.size)⟩
end Go.Proofs.Ytdbkbeojedndbaa
/-
  The walk of the reference's Same, of changes that are alike and have no ops. Printed by gen_same20.py.
-/

namespace Go.Proofs.Ytdbkbeojedndbaa
open Go.RowKit

theorem ints_cells {l : List Int} (h : ∀ x ∈ l, 0 ≤ x ∧ x ≤ 255) : ints .u8 l = (Lib.bytesOf l).map Extern.Stop.cell := by
  unfold ints Lib.bytesOf
  rw [List.map_map]
  refine List.map_congr_left (fun x hx => ?_)
  have := h x hx
  show Value.int .u8 x = Extern.Stop.cell x.toNat.toUInt8
  unfold Extern.Stop.cell
  rw [Nat.toUInt8_eq, UInt8.toNat_ofNat_of_lt' (by show _ < 256; omega)]
  congr 1
  show x = ((x.toNat : Nat) : Int)
  omega
theorem neqHash {l : List Int} (hl : l.length = 32) (h : ∀ x ∈ l, 0 ≤ x ∧ x ≤ 255) (w : World) : (binOp .neq 67 (agg32 l) (agg32 l)).run Try.prog w = .ok (.bool false) w := by
  have e := run_eql_bytes (P := Try.prog) w 67 5 32 Try.underlying67 Try.underlying5 (fun w => by kernel_rfl) (Lib.bytesOf l) (Lib.bytesOf l) (by simp [Lib.bytesOf, hl]) (by simp [Lib.bytesOf, hl])
  rw [← ints_cells h, beq_self_eq_true] at e
  simp only [binOp] at e ⊢
  simp only [Sem.run_bind] at e ⊢
  generalize Sem.run Try.prog (Op.equal 67 (agg32 l) (agg32 l)) w = r at e ⊢
  cases r <;> simp_all
theorem exec_loadHash {o : Oper} {a : Act} {w : World} {x : Operand} {ad : Addr} {v : Value} (ho : o.op = .load 67 x) (hx : a.eval x = .pointer (some ad)) (h : (loadVar 67 ad).run Try.prog w = .ok v w) : (execOp a.eval o).run Try.prog w = .ok (.value v) w := by
  unfold execOp
  simp only [ho, hx, Instr.loadAt, Instr.sureAddr, Sem.run_bind, Sem.run_pure, Result.andThen_ok, h]
theorem guard_hash (x y : Operand) (X Y : Array Value) (w : World) : (eqGuard .neq 67 x y (.agg X) (.agg Y)).run Try.prog w = .ok () w := by kernel_rfl
theorem exec_neqHash {o : Oper} {a : Act} {w : World} {x y : Operand} {t : TypeId} {X Y : Array Value} {r : Value} (ho : o.op = .binOp .neq 67 x y t) (hx : a.eval x = .agg X) (hy : a.eval y = .agg Y) (h : (binOp .neq 67 (.agg X) (.agg Y)).run Try.prog w = .ok r w) : (execOp a.eval o).run Try.prog w = .ok (.value r) w := by
  unfold execOp
  simp only [ho, hx, hy, Sem.run_bind, Sem.run_pure, guard_hash, Result.andThen_ok, h]
theorem rSame17_nil (w : World) : Calls Try.prog 40 #[.slice none 0 0, .slice none 0 0] w fun e w' => e = .returned (.bool true) ∧ Below w.heap.size w w' := by
  go_enter Try.func40, Try.ntmps40
  go_wp2_with fail
  go_loopw [5] (fun i wr => i = .int .i64 0 ∧ wr = w) (fun _ _ => 0)
  case atStart => exact ⟨rfl, rfl⟩
  case round =>
    obtain ⟨rfl, hw⟩ := hrel
    obtain ⟨W, hW⟩ : ∃ W, W = wr := ⟨_, rfl⟩
    rw [← hW] at hw ⊢
    subst hw
    clear hW
    go_wp2_with fail
    go_ret
    exact ⟨rfl, Below.refl _ _⟩
set_option maxHeartbeats 1000000 in
set_option maxRecDepth 100000 in
theorem rSame20_calls (a : ByteArray) (sq st tm : Int) (ms : ByteArray) (A B : Option Addr) (n c d : Nat) (D : List (List Int)) (w : World) (hA : DepsAt w A n c D) (hB : DepsAt w B n d D) (hn : n ≤ 100000) (_ha : a.size ≤ 140737488355328) (_hm : ms.size ≤ 140737488355328) :
    Calls Try.prog 12 #[.agg (chgC2 a sq st tm ms (.slice A n c) (.slice none 0 0)), .agg (chgC2 a sq st tm ms (.slice B n d) (.slice none 0 0))] w fun e w' => e = .returned (.bool true) ∧ Below w.heap.size w w' := by
  have HA := Lib.hid hA
  have HB := Lib.hid hB
  have hae : (a.toList != a.toList) = false := by simp
  have hme : (ms.toList != ms.toList) = false := by simp
  clear hA hB
  go_enter Try.func12, Try.ntmps12
  go_upto_region 1 with fail
  obtain ⟨g, hg⟩ : ∃ g, g = w.heap.size := ⟨_, rfl⟩
  obtain ⟨h, hh⟩ : ∃ g, g = w.heap.size + 1 := ⟨_, rfl⟩
  obtain ⟨W, hW⟩ : ∃ X, X = (w.alloc (.cells #[.string a, .int .i64 sq, .int .i64 st, .int .i64 tm, .string ms, .slice A n c, .slice none 0 0] 27)).alloc (.cells #[.string a, .int .i64 sq, .int .i64 st, .int .i64 tm, .string ms, .slice B n d, .slice none 0 0] 27) := ⟨_, rfl⟩
  have hb : Below w.heap.size w W := by rw [hW]; exact ((Below.refl _ _).alloc (Nat.le_refl _) _).alloc (by simp) _
  have r1 : W.heap[g]? = some (.cells (chgC2 a sq st tm ms (.slice A n c) (.slice none 0 0)) 27 (0, 0)) := by
    rw [hW, hg]; exact (Below.heap_alloc _ _ _ (by simp)).trans (heap_alloc_new w _)
  have r2 : W.heap[h]? = some (.cells (chgC2 a sq st tm ms (.slice B n d) (.slice none 0 0)) 27 (0, 0)) := by
    rw [hW, hh]
    have := heap_alloc_new (w.alloc (.cells (chgC2 a sq st tm ms (.slice A n c) (.slice none 0 0)) 27)) (.cells (chgC2 a sq st tm ms (.slice B n d) (.slice none 0 0)) 27)
    simpa using this
  rw [← hW, ← hh, ← hg]
  clear hW hg hh
  have HBw := Lib.hid hb
  have a0 : W.cell? ⟨g, 0, none⟩ = some (.string a) := cell_of_row W g 0 _ _ (0, 0) r1
  have a1 : W.cell? ⟨g, 1, none⟩ = some (.int .i64 sq) := cell_of_row W g 1 _ _ (0, 0) r1
  have a2 : W.cell? ⟨g, 2, none⟩ = some (.int .i64 st) := cell_of_row W g 2 _ _ (0, 0) r1
  have a3 : W.cell? ⟨g, 3, none⟩ = some (.int .i64 tm) := cell_of_row W g 3 _ _ (0, 0) r1
  have a4 : W.cell? ⟨g, 4, none⟩ = some (.string ms) := cell_of_row W g 4 _ _ (0, 0) r1
  have a5 : W.cell? ⟨g, 5, none⟩ = some (.slice A n c) := cell_of_row W g 5 _ _ (0, 0) r1
  have a6 : W.cell? ⟨g, 6, none⟩ = some (.slice none 0 0) := cell_of_row W g 6 _ _ (0, 0) r1
  have b0 : W.cell? ⟨h, 0, none⟩ = some (.string a) := cell_of_row W h 0 _ _ (0, 0) r2
  have b1 : W.cell? ⟨h, 1, none⟩ = some (.int .i64 sq) := cell_of_row W h 1 _ _ (0, 0) r2
  have b2 : W.cell? ⟨h, 2, none⟩ = some (.int .i64 st) := cell_of_row W h 2 _ _ (0, 0) r2
  have b3 : W.cell? ⟨h, 3, none⟩ = some (.int .i64 tm) := cell_of_row W h 3 _ _ (0, 0) r2
  have b4 : W.cell? ⟨h, 4, none⟩ = some (.string ms) := cell_of_row W h 4 _ _ (0, 0) r2
  have b5 : W.cell? ⟨h, 5, none⟩ = some (.slice B n d) := cell_of_row W h 5 _ _ (0, 0) r2
  have b6 : W.cell? ⟨h, 6, none⟩ = some (.slice none 0 0) := cell_of_row W h 6 _ _ (0, 0) r2
  clear r1 r2 hb
  go_wp2_with fail
  go_loopw [5] (fun i wr => ∃ k : Nat, k ≤ n ∧ i = .int .i64 k ∧ Hid (Below W.heap.size W wr)) (fun i _ => n - (intOf i).toNat)
  case atStart => exact ⟨0, by omega, rfl, Below.refl _ _⟩
  case round =>
    obtain ⟨k, hk, rfl, HBr⟩ := hrel
    obtain ⟨Wk, hWk⟩ : ∃ W, W = wr := ⟨_, rfl⟩
    subst hWk
    have p5 := kept_cell HBr.out a5
    have q5 := kept_cell HBr.out b5
    by_cases hlt : k < n
    · obtain ⟨b1, o1, eA, hc1⟩ := ((HA.out.below HBw.out).below HBr.out).at' (by omega)
      obtain ⟨b2, o2, eB, hc2⟩ := ((HB.out.below HBw.out).below HBr.out).at' (by omega)
      subst eA eB
      have hm9 := HA.out.hs _ (dep_mem (D := D) (k := k) (by rw [HA.out.len]; exact hlt))
      obtain ⟨l, hl⟩ : ∃ l, l = dep D k := ⟨_, rfl⟩
      rw [← hl] at hm9
      have z1 : (loadVar 67 ⟨b1, o1 + k * 32, none⟩).run Try.prog Wk.drew = .ok (agg32 l) Wk.drew := run_loadHash hm9.1 (fun j hj => by rw [hl]; exact hc1 k j hlt hj)
      have z2 : (loadVar 67 ⟨b2, o2 + k * 32, none⟩).run Try.prog Wk.drew = .ok (agg32 l) Wk.drew := run_loadHash hm9.1 (fun j hj => by rw [hl]; exact hc2 k j hlt hj)
      have z3 := neqHash hm9.1 hm9.2 Wk.drew
      obtain ⟨X, hX⟩ : ∃ X, X = (ints .u8 l).toArray := ⟨_, rfl⟩
      simp only [agg32, ← hX] at z1 z2 z3
      have hk1 : (k : Int) < (n : Int) := by omega
      clear hc1 hc2 hm9 hl hX
      go_upto_region 6 with fail
      refine wp_region_noPanic ?_
      refine wp_region_held_drew (S := fun W' => W'.cell? ⟨g, 5, none⟩ = some (.slice (some ⟨b1, o1, none⟩) n c) ∧ W'.cell? ⟨h, 5, none⟩ = some (.slice (some ⟨b2, o2, none⟩) n d) ∧ (loadVar 67 ⟨b1, o1 + k * 32, none⟩).run Try.prog W' = .ok (.agg X) W' ∧ (loadVar 67 ⟨b2, o2 + k * 32, none⟩).run Try.prog W' = .ok (.agg X) W' ∧ (binOp .neq 67 (.agg X) (.agg X)).run Try.prog W' = .ok (.bool false) W') (by kernel_rfl) (⟨p5, q5, z1, z2, z3⟩) (fun hHeld => ?_)
      refine' wpAnyH_take (i := 0) (oi := ⟨_, _, _, _, _, _⟩) (v := _) rfl (by kernel_rfl) (by kernel_rfl) (by kernel_rfl) (fun _ _ _ h => h) (Or.inl ⟨by rfl, ?hya0⟩) (by assumption) ?resta0
      case hya0 => (intro w hSw; (try dsimp only at hSw); go_simp; try with_reducible rfl)
      try simp only [Act.put, List.setIfInBounds_toArray, List.set_cons_zero, List.set_cons_succ]
      refine' wpAnyH_take (i := 1) (oi := ⟨_, _, _, _, _, _⟩) (v := _) rfl (by kernel_rfl) (by kernel_rfl) (by kernel_rfl) (fun _ _ _ h => h) (Or.inl ⟨by rfl, ?hya1⟩) (by assumption) ?resta1
      case hya1 => (intro w hSw; (try dsimp only at hSw); go_simp; try with_reducible rfl)
      try simp only [Act.put, List.setIfInBounds_toArray, List.set_cons_zero, List.set_cons_succ]
      refine' wpAnyH_take (i := 2) (oi := ⟨_, _, _, _, _, _⟩) (v := _) rfl (by kernel_rfl) (by kernel_rfl) (by kernel_rfl) (fun _ _ _ h => h) (Or.inl ⟨by rfl, ?hya2⟩) (by assumption) ?resta2
      case hya2 => (intro w hSw; (try dsimp only at hSw); go_simp; try with_reducible rfl)
      try simp only [Act.put, List.setIfInBounds_toArray, List.set_cons_zero, List.set_cons_succ]
      refine' wpAnyH_take (i := 3) (oi := ⟨_, _, _, _, _, _⟩) (v := _) rfl (by kernel_rfl) (by kernel_rfl) (by kernel_rfl) (fun _ _ _ h => h) (Or.inl ⟨by rfl, ?hya3⟩) (by assumption) ?resta3
      case hya3 => (intro w hSw; (try dsimp only at hSw); go_simp; try with_reducible rfl)
      try simp only [Act.put, List.setIfInBounds_toArray, List.set_cons_zero, List.set_cons_succ]
      refine' wpAnyH_take (i := 4) (oi := ⟨_, _, _, _, _, _⟩) (v := .agg X) rfl (by kernel_rfl) (by kernel_rfl) (by kernel_rfl) (fun _ _ _ h => h) (Or.inl ⟨by rfl, ?hya4⟩) (by assumption) ?resta4
      case hya4 => (intro w hSw; exact exec_loadHash rfl rfl hSw.2.2.1)
      try simp only [Act.put, List.setIfInBounds_toArray, List.set_cons_zero, List.set_cons_succ]
      refine' wpAnyH_take (i := 5) (oi := ⟨_, _, _, _, _, _⟩) (v := _) rfl (by kernel_rfl) (by kernel_rfl) (by kernel_rfl) (fun _ _ _ h => h) (Or.inl ⟨by rfl, ?hya5⟩) (by assumption) ?resta5
      case hya5 => (intro w hSw; (try dsimp only at hSw); go_simp; try with_reducible rfl)
      try simp only [Act.put, List.setIfInBounds_toArray, List.set_cons_zero, List.set_cons_succ]
      refine' wpAnyH_take (i := 6) (oi := ⟨_, _, _, _, _, _⟩) (v := _) rfl (by kernel_rfl) (by kernel_rfl) (by kernel_rfl) (fun _ _ _ h => h) (Or.inl ⟨by rfl, ?hya6⟩) (by assumption) ?resta6
      case hya6 => (intro w hSw; (try dsimp only at hSw); go_simp; try with_reducible rfl)
      try simp only [Act.put, List.setIfInBounds_toArray, List.set_cons_zero, List.set_cons_succ]
      refine' wpAnyH_take (i := 7) (oi := ⟨_, _, _, _, _, _⟩) (v := _) rfl (by kernel_rfl) (by kernel_rfl) (by kernel_rfl) (fun _ _ _ h => h) (Or.inl ⟨by rfl, ?hya7⟩) (by assumption) ?resta7
      case hya7 => (intro w hSw; (try dsimp only at hSw); go_simp; try with_reducible rfl)
      try simp only [Act.put, List.setIfInBounds_toArray, List.set_cons_zero, List.set_cons_succ]
      refine' wpAnyH_take (i := 8) (oi := ⟨_, _, _, _, _, _⟩) (v := _) rfl (by kernel_rfl) (by kernel_rfl) (by kernel_rfl) (fun _ _ _ h => h) (Or.inl ⟨by rfl, ?hya8⟩) (by assumption) ?resta8
      case hya8 => (intro w hSw; (try dsimp only at hSw); go_simp; try with_reducible rfl)
      try simp only [Act.put, List.setIfInBounds_toArray, List.set_cons_zero, List.set_cons_succ]
      refine' wpAnyH_take (i := 9) (oi := ⟨_, _, _, _, _, _⟩) (v := .agg X) rfl (by kernel_rfl) (by kernel_rfl) (by kernel_rfl) (fun _ _ _ h => h) (Or.inl ⟨by rfl, ?hya9⟩) (by assumption) ?resta9
      case hya9 => (intro w hSw; exact exec_loadHash rfl rfl hSw.2.2.2.1)
      try simp only [Act.put, List.setIfInBounds_toArray, List.set_cons_zero, List.set_cons_succ]
      refine' wpAnyH_take (i := 10) (oi := ⟨_, _, _, _, _, _⟩) (v := .bool false) rfl (by kernel_rfl) (by kernel_rfl) (by kernel_rfl) (fun _ _ _ h => h) (Or.inl ⟨by rfl, ?hya10⟩) (by assumption) ?resta10
      case hya10 => (intro w hSw; exact exec_neqHash rfl rfl rfl hSw.2.2.2.2)
      try simp only [Act.put, List.setIfInBounds_toArray, List.set_cons_zero, List.set_cons_succ]
      refine wpAnyH_done (by kernel_rfl) ?_ _
      refine NoPanic.normal ?_
      clear hHeld z1 z2 z3
      go_wp2_with fail
      go_roundw
      case rel => exact ⟨k + 1, by omega, by go_num, Lib.hid HBr.out.drew⟩
      case measure => simp [intOf]; omega
    · obtain rfl : k = n := by omega
      have p6 := kept_cell HBr.out a6
      have q6 := kept_cell HBr.out b6
      go_wp2_with fail
      refine (rSame17_nil _).mono ?_
      rintro e w9 ⟨rfl, hb9⟩
      have HB9 := Lib.hid (below_seq (HBw.out.trans (HBr.out.mono HBw.out.size)) (Nat.le_refl _) hb9)
      clear hb9
      go_wp2_with fail
      go_ret
      exact ⟨rfl, HB9.out⟩
end Go.Proofs.Ytdbkbeojedndbaa
/-
  A region that draws its order, whose last operation waits for all others: what is held till then need not be held behind it.
-/
namespace Go.Proofs.Ytdbkbeojedndbaa
open Go.RowKit

/-- The post of all but the last operation: what the last one asks; no panic. -/
def LastQ (P : Program) (ops : Array Oper) (on : Oper) (Q : Exit → Act → World → Prop) : Exit → Act → World → Prop
  | .normal, a, w => wpList P ops Q [on] a w
  | .panic _, _, _ => False
  | e, a, w => Q e a w
theorem LastQ.imp {P : Program} {ops : Array Oper} {on : Oper} {Q : Exit → Act → World → Prop} : ∀ (e : Exit) (a : Act) (w : World), e ≠ .normal → LastQ P ops on Q e a w → Q e a w := fun e a w hn h => by
  cases e <;> first | exact absurd rfl hn | exact h | exact (h : False).elim
theorem upon_monoQ {P : Program} {o : Oper} {a : Act} {next : Act → World → Prop} {Q Q' : Exit → Act → World → Prop} (hQ : ∀ e a w, e ≠ .normal → Q' e a w → Q e a w) : ∀ r, o.upon P a next Q' r → o.upon P a next Q r := by
  intro r h
  rcases r with ⟨n, w'⟩ | ⟨hh, w'⟩
  · cases n with
    | enter f args =>
      refine Calls.mono h fun e w'' he => ?_
      cases e with
      | returned u => exact he
      | panicked c => exact hQ _ _ _ (by simp) he
      | outgrown => obtain ⟨a, w, hq⟩ := he; exact ⟨a, w, hQ _ _ _ (by simp) hq⟩
    | _ => exact h
  · cases hh with
    | panic v => exact hQ _ _ _ (by simp) h
    | _ => exact h
theorem wpOp_monoQ {P : Program} {ops : Array Oper} {i : Nat} {K : Act → World → Prop} {a : Act} {w : World} {Q Q' : Exit → Act → World → Prop} (hQ : ∀ e a w, e ≠ .normal → Q' e a w → Q e a w) (h : wpOp P ops Q' i K a w) : wpOp P ops Q i K a w := by
  unfold wpOp at *
  split
  · simpa [*] using h
  · rename_i o ho
    simp only [ho] at h
    split
    · rename_i hw
      simp only [hw, if_true] at h
      rcases h with h | ⟨h1, a', w', h2⟩
      · exact .inl (upon_monoQ hQ _ h)
      · exact .inr ⟨h1, a', w', hQ _ _ _ (by simp) h2⟩
    · rename_i hw
      simp only [hw] at h
      exact h
/-- Every operation waits for earlier ones alone; the last for all others. -/
def lastB (md : Region.Mode) (ops : Array Oper) (n : Nat) : Bool :=
  decide (ops.size = n + 1) && (List.range ops.size).all (fun i => ((ops[i]?).map fun o => o.after.all fun e => !Region.binds md e || decide (e.on < i)).getD false) &&
    (List.range n).all (fun i => (List.range (n + 1)).any fun j => decide (i < j) && ((ops[j]?).map fun o => o.after.any fun e => Region.binds md e && e.on == i).getD false)
structure LastOk (md : Region.Mode) (ops : Array Oper) (n : Nat) (on : Oper) : Prop where
  hn : ops[n]? = some on
  size : ops.size = n + 1
  down : ∀ i o, ops[i]? = some o → ∀ e ∈ o.after, Region.binds md e = true → e.on < i
  all : ∀ i, i < n → ∃ j o, i < j ∧ j ≤ n ∧ ops[j]? = some o ∧ ∃ e ∈ o.after, Region.binds md e = true ∧ e.on = i
/-- Who has come up has come up behind those for whom it waits. -/
def Closed (md : Region.Mode) (ops : Array Oper) (listed : Array Bool) : Prop := ∀ j o, ops[j]? = some o → listed.getD j false = true → ∀ e ∈ o.after, Region.binds md e = true → listed.getD e.on false = true
theorem Closed.set {md : Region.Mode} {ops : Array Oper} {listed : Array Bool} (hc : Closed md ops listed) {i : Nat} (hi : i ∈ Region.ready md ops listed) : Closed md ops (listed.setIfInBounds i true) := by
  obtain ⟨_, oi, hoi, hall⟩ := mem_ready.1 hi
  intro j o hj hl e he hb
  by_cases hij : i = j
  · subst hij
    have : o = oi := Option.some.inj (hj.symm.trans hoi)
    subst this
    exact getD_set_true (hall e he hb)
  · rw [getD_set_ne false hij] at hl
    exact getD_set_true (hc j o hj hl e he hb)
theorem LastOk.of {md : Region.Mode} {ops : Array Oper} {n : Nat} {on : Oper} (hn : ops[n]? = some on) (h : lastB md ops n = true) : LastOk md ops n on := by
  unfold lastB at h
  simp only [Bool.and_eq_true, decide_eq_true_eq] at h
  obtain ⟨⟨h1, h2⟩, h3⟩ := h
  refine ⟨hn, h1, fun i o ho e he hb => ?_, fun i hi => ?_⟩
  · have hlt : i < ops.size := (Array.getElem?_eq_some_iff.1 ho).1
    have q := List.all_eq_true.1 h2 i (List.mem_range.2 hlt)
    rw [ho, Option.map_some, Option.getD_some] at q
    have q2 := Array.all_eq_true_iff_forall_mem.1 q e he
    rw [hb] at q2
    simpa using q2
  · have q := List.all_eq_true.1 h3 i (List.mem_range.2 hi)
    obtain ⟨j, hj, q1⟩ := List.any_eq_true.1 q
    simp only [Bool.and_eq_true, decide_eq_true_eq] at q1
    have hjn := List.mem_range.1 hj
    have ho : ops[j]? = some (ops[j]'(by omega)) := Array.getElem?_eq_getElem (by omega)
    have q3 := q1.2
    rw [ho, Option.map_some, Option.getD_some] at q3
    obtain ⟨e, he, q2⟩ := Array.any_eq_true'.1 q3
    simp only [Bool.and_eq_true, beq_iff_eq] at q2
    exact ⟨j, _, q1.1, by omega, ho, e, he, q2.1, q2.2⟩
/-- Where nothing but the last may come up, all others have. -/
theorem LastOk.listed {md : Region.Mode} {ops : Array Oper} {n : Nat} {on : Oper} (L : LastOk md ops n on) {listed : Array Bool} (hs : listed.size = ops.size) (hr : ∀ i ∈ Region.ready md ops listed, i = n) : ∀ i, i < n → listed.getD i false = true := by
  intro i
  induction i using Nat.strongRecOn with
  | _ i ih =>
    intro hi
    cases e : listed.getD i false with
    | true => rfl
    | false =>
      exfalso
      have hsz := L.size
      have ho : ops[i]? = some (ops[i]'(by omega)) := Array.getElem?_eq_getElem (by omega)
      have : i ∈ Region.ready md ops listed := by
        rw [mem_ready]
        refine ⟨?_, _, ho, fun e' he hb => ih e'.on (L.down i _ ho e' he hb) (by have := L.down i _ ho e' he hb; omega)⟩
        have hil : i < listed.size := by omega
        simp [hil] at e ⊢
        exact e
      have := hr i this
      omega
theorem LastOk.end' {md : Region.Mode} {ops : Array Oper} {n : Nat} {on : Oper} (L : LastOk md ops n on) {listed : Array Bool} (hs : listed.size = ops.size) (hn : listed.getD n true = false) (h : ∀ i, i < n → listed.getD i false = true) : Region.ready md ops listed = [n] ∧ Region.ready md ops (listed.setIfInBounds n true) = [] := by
  have hmem : ∀ j, j ∈ Region.ready md ops listed ↔ j = n := by
    intro j
    rw [mem_ready]
    constructor
    · rintro ⟨h1, o, ho, _⟩
      have hlt : j < ops.size := (Array.getElem?_eq_some_iff.1 ho).1
      rcases Nat.lt_or_ge j n with h2 | h2
      · have h3 := h j h2
        have hj : j < listed.size := by omega
        simp [hj] at h1 h3
        rw [h1] at h3
        cases h3
      · have := L.size; omega
    · rintro rfl
      exact ⟨hn, on, L.hn, fun e he hb => h _ (L.down _ _ L.hn e he hb)⟩
  constructor
  · have hnd : (Region.ready md ops listed).Nodup := (List.nodup_range).sublist (by unfold Region.ready; exact List.filter_sublist)
    generalize Region.ready md ops listed = l at *
    match l, hmem, hnd with
    | [], hm, _ => exact absurd ((hm n).2 rfl) (by simp)
    | [x], hm, _ => rw [(hm x).1 (by simp)]
    | x :: y :: r, hm, hnd =>
      have e1 := (hm x).1 (by simp)
      have e2 := (hm y).1 (by simp)
      simp [e1, e2] at hnd
  · rw [List.eq_nil_iff_forall_not_mem]
    intro j hj
    have h1 := hj
    rw [mem_ready] at h1
    obtain ⟨h1, o, ho, _⟩ := h1
    have hlt : j < ops.size := (Array.getElem?_eq_some_iff.1 ho).1
    have hjs : j < (listed.setIfInBounds n true).size := by simp; omega
    by_cases e : n = j
    · subst e
      simp at h1
    · rw [getD_set_ne true e] at h1
      have h3 := h j (by have := L.size; omega)
      have hj2 : j < listed.size := by omega
      simp [hj2] at h1 h3
      rw [h1] at h3
      cases h3
theorem wpAny_of_last {P : Program} {md : Region.Mode} {ops : Array Oper} {n : Nat} {on : Oper} {Q : Exit → Act → World → Prop} {S : World → Prop} (L : LastOk md ops n on) :
    ∀ (fuel : Nat) (listed : Array Bool) (a : Act) (w : World), listed.size = ops.size → listed.getD n true = false → Closed md ops listed → wpAnyH P md ops (LastQ P ops on Q) S fuel (listed.setIfInBounds n true) a w → wpAny P md ops Q (fuel + 1) listed a w := by
  have fin : ∀ (fuel : Nat) (listed : Array Bool) (a : Act) (w : World), listed.size = ops.size → listed.getD n true = false → (∀ i, i < n → listed.getD i false = true) → LastQ P ops on Q .normal a w → wpAny P md ops Q (fuel + 1) listed a w := by
    intro fuel listed a w hs hn hl h
    obtain ⟨r1, r2⟩ := L.end' hs hn hl
    refine ⟨fun h0 => (by rw [r1] at h0; cases h0), fun i hi => ?_⟩
    rw [r1] at hi
    have hin : i = n := by simpa using hi
    subst hin
    have hw : wpOp P ops Q i (wpList P ops Q []) a w := by unfold wpOp; simp only [L.hn]; exact h
    refine wpOp_mono (fun a' w' h' => ?_) hw
    cases fuel with
    | zero => exact ⟨r2, h'⟩
    | succ f => exact ⟨fun _ => h', fun j hj => by rw [r2] at hj; cases hj⟩
  have emp : ∀ (listed : Array Bool), listed.size = ops.size → Region.ready md ops (listed.setIfInBounds n true) = [] → ∀ i, i < n → listed.getD i false = true := by
    intro listed hs hr
    exact L.listed hs (fun i hi => by
      apply Classical.byContradiction
      intro hne
      have := ready_mono hi hne
      rw [hr] at this
      cases this)
  intro fuel
  induction fuel with
  | zero =>
    intro listed a w hs hn _ h
    exact fin 0 listed a w hs hn (emp listed hs h.1) h.2
  | succ fuel ih =>
    intro listed a w hs hn hc h
    by_cases hr : Region.ready md ops (listed.setIfInBounds n true) = []
    · exact fin (fuel + 1) listed a w hs hn (emp listed hs hr) (h.1 hr)
    · refine ⟨fun h0 => ?_, fun i hi => ?_⟩
      · exfalso
        have hl := L.listed hs (fun i hi => by rw [h0] at hi; cases hi)
        rw [(L.end' hs hn hl).1] at h0
        cases h0
      · by_cases hin : i = n
        · subst hin
          exfalso
          have hl : ∀ d j, i - j = d → j < i → listed.getD j false = true := by
            intro d
            induction d using Nat.strongRecOn with
            | _ d ihd =>
              intro j hd hj
              obtain ⟨j', o, h1, h2, ho, e, he, hb, rfl⟩ := L.all j hj
              rcases Nat.lt_or_ge j' i with h3 | h3
              · exact hc j' o ho (ihd (i - j') (by omega) j' rfl h3) e he hb
              · obtain rfl : j' = i := by omega
                obtain ⟨_, o', ho', hall⟩ := mem_ready.1 hi
                have : o' = o := Option.some.inj (ho'.symm.trans ho)
                subst this
                exact hall e he hb
          exact hr (L.end' hs hn (fun j hj => hl _ j rfl hj)).2
        · have h1 := wpOp_monoQ LastQ.imp (h.2 i (ready_mono hi hin))
          refine wpOp_mono (fun a' w' h' => ih (listed.setIfInBounds i true) a' w' (by simpa using hs) (by rw [getD_set_ne true hin]; exact hn) (hc.set hi) ?_) h1
          rw [Array.setIfInBounds_comm _ _ hin]
          exact h'.2
/-- The beginning: what is held is held till the last operation. -/
theorem wp_region_last {P : Program} {ops : Array Oper} {Q : Exit → Act → World → Prop} {S : World → Prop} {id n : Nat} {on : Oper} {a : Act} {w : World} (hm : P.follows .mixedOrders = true) (hn : ops[n]? = some on) (hB : lastB .any ops n = true) (hS : S w.drew)
    (h : S w.drew → wpAnyH P .any ops (LastQ P ops on Q) S n ((Array.replicate ops.size false).setIfInBounds n true) a w.drew) : (Code.region id ops true).wp P Q a w := by
  have L := LastOk.of hn hB
  refine wp_region_any hm ?_
  have h1 := wpAny_of_last L n (Array.replicate ops.size false) a w.drew (by simp) (by have := L.size; simp [show n < ops.size by omega]) (fun j o _ hl => (by
    rcases Nat.lt_or_ge j ops.size with h' | h'
    · simp [h'] at hl
    · simp [h'] at hl)) (h hS)
  rw [L.size] at h1 ⊢
  exact h1
end Go.Proofs.Ytdbkbeojedndbaa
