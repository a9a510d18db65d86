/-
  Texts joined into one file: ChunkS.
-/
import Derived.Test.YtendohnkhbgfbaaDoorJRefPk3
import Derived.Test.YtendohnkhbgfbaaDoorJRefPk4
namespace Go.Proofs.YtendohnkhbgfbaaDoor
open Go.RowKit

theorem lit_rd {T : TypeId} {w1 W : World} (_h : Later w1 W) (k : Int) : Rd (W.alloc (.cells #[.int .u8 k] T)) .u8 (some ⟨W.heap.size, 0, none⟩) 1 [k] :=
 Blk.rd (l := [k]) (k := .u8) (T := T) (heap_alloc_new W _) rfl
theorem out_new {T : TypeId} {w1 W : World} (_h : Later w1 W) : Blk (W.alloc (.cells #[.int .u8 0, .int .u8 0, .int .u8 0, .int .u8 0, .int .u8 0, .int .u8 0, .int .u8 0, .int .u8 0, .int .u8 0, .int .u8 0, .int .u8 0, .int .u8 0, .int .u8 0, .int .u8 0, .int .u8 0, .int .u8 0, .int .u8 0, .int .u8 0, .int .u8 0, .int .u8 0, .int .u8 0, .int .u8 0, .int .u8 0, .int .u8 0, .int .u8 0, .int .u8 0, .int .u8 0, .int .u8 0, .int .u8 0, .int .u8 0, .int .u8 0, .int .u8 0] T)) W.heap.size T .u8 (List.replicate 32 0) := heap_alloc_new W _
theorem parts3 {T : TypeId} {w1 W : World} (hL : Later w1 W) {A1 A2 A3 : Option Addr} {n1 n2 n3 c1 c2 c3 : Nat} {l1 l2 l3 : List Int} (r1 : Rd W .u8 A1 n1 l1) (e1 : A1 = none → n1 = 0 ∧ c1 = 0) (h1 : n1 ≤ c1)
  (r2 : Rd W .u8 A2 n2 l2) (e2 : A2 = none → n2 = 0 ∧ c2 = 0) (h2 : n2 ≤ c2) (r3 : Rd W .u8 A3 n3 l3) (e3 : A3 = none → n3 = 0 ∧ c3 = 0) (h3 : n3 ≤ c3) :
  Later w1 (W.alloc (.cells #[.slice A1 n1 c1, .slice A2 n2 c2, .slice A3 n3 c3] T)) ∧ PartsAt (W.alloc (.cells #[.slice A1 n1 c1, .slice A2 n2 c2, .slice A3 n3 c3] T)) (some ⟨W.heap.size, 0, none⟩) 3 [l1, l2, l3] := by
 have hb : Below W.heap.size W (W.alloc (.cells #[.slice A1 n1 c1, .slice A2 n2 c2, .slice A3 n3 c3] T)) := (Below.refl _ _).alloc (Nat.le_refl _) _
 refine ⟨hL.new _, rfl, fun _ => ⟨W.heap.size, 0, rfl, fun j hj => ?_⟩⟩
 rcases (show j = 0 ∨ j = 1 ∨ j = 2 by omega) with rfl | rfl | rfl
 ·exact ⟨A1, n1, c1, by rw [cell_of_row _ W.heap.size _ _ _ (0, 0) (heap_alloc_new W _)]; rfl, r1.below hb, e1, h1⟩
 ·exact ⟨A2, n2, c2, by rw [cell_of_row _ W.heap.size _ _ _ (0, 0) (heap_alloc_new W _)]; rfl, r2.below hb, e2, h2⟩
 ·exact ⟨A3, n3, c3, by rw [cell_of_row _ W.heap.size _ _ _ (0, 0) (heap_alloc_new W _)]; rfl, r3.below hb, e3, h3⟩
theorem rd_new {w1 W : World} {o : Obj} (_h : Later w1 (W.alloc o)) {k : IntKind} {A : Option Addr} {n : Nat} {l : List Int} (h : Rd W k A n l) : Rd (W.alloc o) k A n l := h.below ((Below.refl _ _).alloc (Nat.le_refl _) _)
theorem parts_new {w1 W : World} {o : Obj} (_h : Later w1 (W.alloc o)) {A : Option Addr} {n : Nat} {P : List (List Int)} (h : PartsAt W A n P) : PartsAt (W.alloc o) A n P := h.below ((Below.refl _ _).alloc (Nat.le_refl _) _)
theorem blk_new {w1 W : World} {o : Obj} (_h : Later w1 (W.alloc o)) {g : Nat} {T : TypeId} {k : IntKind} {l : List Int} (h : Blk W g T k l) : Blk (W.alloc o) g T k l := h.alloc o
theorem rd_drew {W : World} {k : IntKind} {A : Option Addr} {n : Nat} {l : List Int} (h : Rd W k A n l) : Rd W.drew k A n l := ⟨h.1, h.2⟩
theorem blk_drew {W : World} {g : Nat} {T : TypeId} {k : IntKind} {l : List Int} (h : Blk W g T k l) : Blk W.drew g T k l := h
theorem chsum_end {w w1 W : World} {g : Nat} {T : TypeId} {D S : List Int} (h1 : Below w.heap.size w w1) (h2 : Below w1.heap.size w1 W) (hg : w1.heap.size ≤ g) (hrow : (W.setRow g (ints .u8 D).toArray).heap[g]? = some (.cells (ints .u8 D).toArray T (0, 0)))
  (hD : S = D.take 4 ∧ D.length = 32) : ∃ g', Ending.returned (Value.slice (some ⟨g, 0, none⟩) 4 32) = .returned (.slice (some ⟨g', 0, none⟩) 4 32) ∧ Hid (Rd (W.setRow g (ints .u8 D).toArray) .u8 (some ⟨g', 0, none⟩) 4 S) ∧ Below w.heap.size w (W.setRow g (ints .u8 D).toArray) := by
 refine ⟨g, rfl, Lib.hid ?_, ?_⟩
 ·rw [hD.1]
  have hB : Blk (W.setRow g (ints .u8 D).toArray) g T .u8 D := hrow
  refine ⟨by rw [List.length_take, hD.2]; rfl, fun _ => ⟨g, 0, rfl, fun j hj => ?_⟩⟩
  rw [take_rdl hj, Nat.zero_add]
  exact hB.cell (by rw [hD.2]; omega)
 ·exact (below_seq h1 (Nat.le_refl _) h2).trans ⟨rfl, rfl, rfl, by simp, fun i hi => setRow_other _ g i _ (by have := h1.size; omega)⟩
set_option maxHeartbeats 1000000 in set_option maxRecDepth 100000 in
theorem sum_calls (k : Int) (A : Option Addr) (n c : Nat) (cs : List Int) (w : World) (hk : 0 ≤ k ∧ k ≤ 255) (hR : Rd w .u8 A n cs) (hA : A = none → n = 0 ∧ c = 0) (hc : n ≤ c) (hcs : ∀ x ∈ cs, 0 ≤ x ∧ x ≤ 255) (hn : n ≤ 100000000) (hK : KeysAt w) (hBg : BeginAt w) :
  Calls Tryd.prog 16 #[.agg #[.int .i64 k, .slice A n c]] w fun e w' => ∃ g, e = .returned (.slice (some ⟨g, 0, none⟩) 4 32) ∧ Hid (Rd w' .u8 (some ⟨g, 0, none⟩) 4 (sumB k cs)) ∧ Below w.heap.size w w' := by
 have HR := Lib.hid hR
 have HA := Lib.hid hA
 have HK := Lib.hid hK
 have HBg := Lib.hid hBg
 have hl10 := lebU_10 (n := n) (by omega)
 have hl := hR.1
 have HbP : Hid (∀ l ∈ [[k], lebU n, cs], ∀ x ∈ l, 0 ≤ x ∧ x ≤ 255) := by
  refine Lib.hid (fun l h x hx => ?_)
  simp only [List.mem_cons, List.not_mem_nil, or_false] at h
  rcases h with rfl | rfl | rfl
  ·simp only [List.mem_cons, List.not_mem_nil, or_false] at hx; subst hx; exact hk
  ·exact lebU_byte n x hx
  ·exact hcs x hx
 have hfl : [[k], lebU n, cs].flatten = tailB k cs := by rw [← hl]; simp [tailB]
 have Hlen : Hid ([[k], lebU n, cs].flatten.length ≤ 900000000) := Lib.hid (by rw [hfl]; unfold tailB; rw [List.length_cons, List.length_append, hl]; omega)
 have Hsm : Hid (∀ j, j + 1 < 3 → (flat [[k], lebU n, cs] (j + 1)).length < 64) := by
  refine Lib.hid (fun j hj => ?_)
  rcases (show j = 0 ∨ j = 1 by omega) with rfl | rfl
  ·simp [flat]
  ·simp only [flat, List.take, List.flatten_cons, List.flatten_nil, List.append_nil, List.length_append, List.length_cons, List.length_nil]; omega
 obtain ⟨D, hD⟩ : ∃ D, D = shaS [[k], lebU n, cs].flatten := ⟨_, rfl⟩
 have HD := Lib.hid hD
 have Hdl : Hid (D.length = 32) := Lib.hid (by rw [hD]; exact shaS_length _)
 have HD4 : Hid (sumB k cs = D.take 4 ∧ D.length = 32) := Lib.hid ⟨by rw [hD, hfl]; rfl, Hdl.out⟩
 clear hR hA hcs hK hBg hl10 hl hfl hD
 go_enter Tryd.func16, Tryd.ntmps16
 go_upto_region 1 with fail
 obtain ⟨g0, hg0⟩ : ∃ g, g = w.heap.size := ⟨_, rfl⟩
 obtain ⟨w1, hw1⟩ : ∃ W, W = w.alloc (.cells #[.int .i64 k, .slice A n c] 26) := ⟨_, rfl⟩
 rw [← hw1, ← hg0]
 have hb1 : Below w.heap.size w w1 := by rw [hw1]; exact (Below.refl _ _).alloc (Nat.le_refl _) _
 have hrow1 : w1.heap[g0]? = some (.cells #[.int .i64 k, .slice A n c] 26 (0, 0)) := by rw [hw1, hg0]; exact heap_alloc_new w _
 have c0 : w1.cell? ⟨g0, 0, none⟩ = some (.int .i64 k) := by rw [cell_of_row _ g0 _ _ _ (0, 0) hrow1]; rfl
 have c1 : w1.cell? ⟨g0, 1, none⟩ = some (.slice A n c) := by rw [cell_of_row _ g0 _ _ _ (0, 0) hrow1]; rfl
 have C0 := Later.cell c0
 have C1 := Later.cell c1
 have HR1 := Lib.hid (HR.out.below hb1)
 have HK1 : Hid (KeysAt w1) := Lib.hid (fun j hj => kept_cell hb1 (HK.out j hj))
 have HBg1 : Hid (BeginAt w1) := Lib.hid (fun j hj => kept_cell hb1 (HBg.out j hj))
 have HB1 := Lib.hid hb1
 have L0 := Later.refl w1
 have hwk : IntKind.u8.wrap k = k := by rw [IntKind.wrap_u8]; omega
 have hwn : IntKind.u64.wrap (n : Int) = n := by rw [IntKind.wrap_u64]; omega
 clear hw1 hg0 hb1 hrow1 c0 c1
 refine wp_region_last (n := 14) (on := ⟨_, _, _, _, _, _⟩) (S := fun W => Later w1 W ∧ W.cell? ⟨g0, 0, none⟩ = some (.int .i64 k) ∧ W.cell? ⟨g0, 1, none⟩ = some (.slice A n c)) (by kernel_rfl) rfl (by kernel_rfl) (⟨(Later.drew L0), C0 _ (Later.drew L0), C1 _ (Later.drew L0)⟩) (fun hHeld => ?_)
 refine' wpAnyH_take (i := 0) (oi := ⟨_, _, _, _, _, _⟩) rfl (by kernel_rfl) (by kernel_rfl) (by kernel_rfl) (fun _ _ _ h => h) (Or.inl ⟨by rfl, ?a0⟩) (by assumption) ?b0
 case a0 => (intro w hSw; (try dsimp only at hSw); go_simp; try with_reducible rfl)
 try simp only [Act.put, List.setIfInBounds_toArray, List.set_cons_zero, List.set_cons_succ]
 refine' wpAnyH_take (i := 1) (oi := ⟨_, _, _, _, _, _⟩) rfl (by kernel_rfl) (by kernel_rfl) (by kernel_rfl) (fun _ _ _ h => h) (Or.inl ⟨by rfl, ?a1⟩) (by assumption) ?b1
 case a1 => (intro w hSw; (try dsimp only at hSw); go_simp; try with_reducible rfl)
 try simp only [Act.put, List.setIfInBounds_toArray, List.set_cons_zero, List.set_cons_succ]
 refine' wpAnyH_take (i := 2) (oi := ⟨_, _, _, _, _, _⟩) rfl (by kernel_rfl) (by kernel_rfl) (by kernel_rfl) (fun _ _ _ h => h) (Or.inl ⟨by rfl, ?a2⟩) (by assumption) ?b2
 case a2 => (intro w hSw; (try dsimp only at hSw); go_simp; try with_reducible rfl)
 try simp only [Act.put, List.setIfInBounds_toArray, List.set_cons_zero, List.set_cons_succ]
 refine' wpAnyH_take (i := 4) (oi := ⟨_, _, _, _, _, _⟩) rfl (by kernel_rfl) (by kernel_rfl) (by kernel_rfl) (fun _ _ _ h => h) (Or.inl ⟨by rfl, ?a3⟩) (by assumption) ?b3
 case a3 => (intro w hSw; (try dsimp only at hSw); go_simp; try with_reducible rfl)
 try simp only [Act.put, List.setIfInBounds_toArray, List.set_cons_zero, List.set_cons_succ]
 refine' wpAnyH_take (i := 5) (oi := ⟨_, _, _, _, _, _⟩) rfl (by kernel_rfl) (by kernel_rfl) (by kernel_rfl) (fun _ _ _ h => h) (Or.inl ⟨by rfl, ?a4⟩) (by assumption) ?b4
 case a4 => (intro w hSw; (try dsimp only at hSw); go_simp; try with_reducible rfl)
 try simp only [Act.put, List.setIfInBounds_toArray, List.set_cons_zero, List.set_cons_succ]
 refine' wpAnyH_take (i := 6) (oi := ⟨_, _, _, _, _, _⟩) rfl (by kernel_rfl) (by kernel_rfl) (by kernel_rfl) (fun _ _ _ h => h) (Or.inl ⟨by rfl, ?a5⟩) (by assumption) ?b5
 case a5 => (intro w hSw; (try dsimp only at hSw); go_simp; try with_reducible rfl)
 try simp only [Act.put, List.setIfInBounds_toArray, List.set_cons_zero, List.set_cons_succ]
 refine' wpAnyH_take (i := 7) (oi := ⟨_, _, _, _, _, _⟩) rfl (by kernel_rfl) (by kernel_rfl) (by kernel_rfl) (fun _ _ _ h => h) (Or.inl ⟨by rfl, ?a6⟩) (by assumption) ?b6
 case a6 => (intro w hSw; (try dsimp only at hSw); go_simp; try with_reducible rfl)
 try simp only [Act.put, List.setIfInBounds_toArray, List.set_cons_zero, List.set_cons_succ]
 refine' wpAnyH_take (i := 9) (oi := ⟨_, _, _, _, _, _⟩) rfl (by kernel_rfl) (by kernel_rfl) (by kernel_rfl) (fun _ _ _ h => h) (Or.inl ⟨by rfl, ?a7⟩) (by assumption) ?b7
 case a7 => (intro w hSw; (try dsimp only at hSw); go_simp; try with_reducible rfl)
 try simp only [Act.put, List.setIfInBounds_toArray, List.set_cons_zero, List.set_cons_succ]
 refine' wpAnyH_take (i := 10) (oi := ⟨_, _, _, _, _, _⟩) rfl (by kernel_rfl) (by kernel_rfl) (by kernel_rfl) (fun _ _ _ h => h) (Or.inl ⟨by rfl, ?a8⟩) (by assumption) ?b8
 case a8 => (intro w hSw; (try dsimp only at hSw); go_simp; try with_reducible rfl)
 try simp only [Act.put, List.setIfInBounds_toArray, List.set_cons_zero, List.set_cons_succ]
 refine wpAnyH_ready (rs := [3, 8, 13]) (by kernel_rfl) (by simp) ?_
 refine AllReadyH.cons (o := ⟨_, _, _, _, _, _⟩) rfl (fun K hK => ?_) (AllReadyH.cons (o := ⟨_, _, _, _, _, _⟩) rfl (fun K hK => ?_) (AllReadyH.cons (o := ⟨_, _, _, _, _, _⟩) rfl (fun K hK => ?_) AllReadyH.nil))
 ·go_simp
  have rA := lit_rd (T := 5) L0 k
  try simp only [World.size_alloc] at rA
  have L3_0 : Later w1 _ := Later.new (.cells #[.int .u8 k] 5) L0
  refine hK.out _ _ (⟨(Later.drew L3_0), C0 _ (Later.drew L3_0), C1 _ (Later.drew L3_0)⟩) (fun hHeldN => ?_)
  clear hK K hHeld
  have hHeld := hHeldN
  clear hHeldN
  try simp only [Act.put, List.setIfInBounds_toArray, List.set_cons_zero, List.set_cons_succ]
  refine wpAnyH_ready (rs := [8, 13]) (by kernel_rfl) (by simp) ?_
  refine AllReadyH.cons (o := ⟨_, _, _, _, _, _⟩) rfl (fun K hK => ?_) (AllReadyH.cons (o := ⟨_, _, _, _, _, _⟩) rfl (fun K hK => ?_) AllReadyH.nil)
  ·go_simp
   go_at_call 17
   refine (U_calls n _ (by omega)).mono ?_
   rintro e w9 ⟨v9, rfl, ho9, hb9⟩
   obtain ⟨A9, c9, rfl, hc9, r9⟩ := own_rd ho9
   have nl9 := own_none ho9
   clear ho9
   replace rA := rd_drew rA
   replace rA := rA.below hb9
   have L8_1 := Later.step (Later.drew L3_0) hb9
   refine hK.out _ _ (⟨L8_1, C0 _ L8_1, C1 _ L8_1⟩) (fun hHeldN => ?_)
   clear hK K hHeld
   have hHeld := hHeldN
   clear hHeldN
   try simp only [Act.put, List.setIfInBounds_toArray, List.set_cons_zero, List.set_cons_succ]
   refine wpAnyH_ready (rs := [11, 13]) (by kernel_rfl) (by simp) ?_
   refine AllReadyH.cons (o := ⟨_, _, _, _, _, _⟩) rfl (fun K hK => ?_) (AllReadyH.cons (o := ⟨_, _, _, _, _, _⟩) rfl (fun K hK => ?_) AllReadyH.nil)
   ·go_simp
    obtain ⟨L11_2, pA⟩ := parts3 (T := 22) (c1 := 1) L8_1 rA (fun e => by cases e) (Nat.le_refl _) r9 nl9 hc9 (HR1.out.below (Later.bel L8_1)) HA.out hc
    try simp only [World.size_alloc] at pA
    refine hK.out _ _ (⟨L11_2, C0 _ L11_2, C1 _ L11_2⟩) (fun hHeldN => ?_)
    clear hK K hHeld
    have hHeld := hHeldN
    clear hHeldN
    try simp only [Act.put, List.setIfInBounds_toArray, List.set_cons_zero, List.set_cons_succ]
    refine wpAnyH_ready (rs := [12, 13]) (by kernel_rfl) (by simp) ?_
    refine AllReadyH.cons (o := ⟨_, _, _, _, _, _⟩) rfl (fun K hK => ?_) (AllReadyH.cons (o := ⟨_, _, _, _, _, _⟩) rfl (fun K hK => ?_) AllReadyH.nil)
    ·go_simp
     go_at_call 26
     refine (ShaOf_calls _ 3 3 _ _ pA HbP.out (fun j hj => kept_cell (Later.bel L11_2) (HK1.out j hj)) (fun j hj => kept_cell (Later.bel L11_2) (HBg1.out j hj)) Hlen.out (by omega) Hsm.out).mono ?_
     rintro e w10 ⟨rfl, hb10⟩
     rw [← HD.out]
     have L12_3 := Later.step L11_2 hb10
     refine hK.out _ _ (⟨L12_3, C0 _ L12_3, C1 _ L12_3⟩) (fun hHeldN => ?_)
     clear hK K hHeld
     have hHeld := hHeldN
     clear hHeldN
     try simp only [Act.put, List.setIfInBounds_toArray, List.set_cons_zero, List.set_cons_succ]
     refine wpAnyH_ready (rs := [13]) (by kernel_rfl) (by simp) ?_
     refine AllReadyH.cons (o := ⟨_, _, _, _, _, _⟩) rfl (fun K hK => ?_) AllReadyH.nil
     go_simp
     have bO := out_new (T := 52) L12_3
     have hgo := (Later.bel L12_3).size
     try simp only [World.size_alloc] at bO hgo
     have L13_4 : Later w1 _ := Later.new (.cells #[.int .u8 0, .int .u8 0, .int .u8 0, .int .u8 0, .int .u8 0, .int .u8 0, .int .u8 0, .int .u8 0, .int .u8 0, .int .u8 0, .int .u8 0, .int .u8 0, .int .u8 0, .int .u8 0, .int .u8 0, .int .u8 0, .int .u8 0, .int .u8 0, .int .u8 0, .int .u8 0, .int .u8 0, .int .u8 0, .int .u8 0, .int .u8 0, .int .u8 0, .int .u8 0, .int .u8 0, .int .u8 0, .int .u8 0, .int .u8 0, .int .u8 0, .int .u8 0] 52) L12_3
     refine hK.out _ _ (⟨L13_4, C0 _ L13_4, C1 _ L13_4⟩) (fun hHeldN => ?_)
     clear hK K hHeld
     have hHeld := hHeldN
     clear hHeldN
     try simp only [Act.put, List.setIfInBounds_toArray, List.set_cons_zero, List.set_cons_succ]
     refine wpAnyH_done (by kernel_rfl) ?_ _
     change wpList _ _ _ _ _ _
     refine wpList_store_row rfl 52 _ _ rfl _ _ rfl rfl 52 _ bO (by rw [ints_size, Hdl.out]; kernel_rfl) (by rw [ints_size, ints_size, Hdl.out, List.length_replicate]) (ints_one _ _) ?_
     have hrow := setRow_heap _ _ _ (ints .u8 D).toArray 52 _ bO
     go_wp2
     go_ret
     exact chsum_end HB1.out (Later.bel L13_4) hgo hrow HD4.out
    ·go_simp
     have bO := out_new (T := 52) L11_2
     have hgo := (Later.bel L11_2).size
     try simp only [World.size_alloc] at bO hgo
     have L13_3 : Later w1 _ := Later.new (.cells #[.int .u8 0, .int .u8 0, .int .u8 0, .int .u8 0, .int .u8 0, .int .u8 0, .int .u8 0, .int .u8 0, .int .u8 0, .int .u8 0, .int .u8 0, .int .u8 0, .int .u8 0, .int .u8 0, .int .u8 0, .int .u8 0, .int .u8 0, .int .u8 0, .int .u8 0, .int .u8 0, .int .u8 0, .int .u8 0, .int .u8 0, .int .u8 0, .int .u8 0, .int .u8 0, .int .u8 0, .int .u8 0, .int .u8 0, .int .u8 0, .int .u8 0, .int .u8 0] 52) L11_2
     replace pA := parts_new L13_3 pA
     refine hK.out _ _ (⟨L13_3, C0 _ L13_3, C1 _ L13_3⟩) (fun hHeldN => ?_)
     clear hK K hHeld
     have hHeld := hHeldN
     clear hHeldN
     try simp only [Act.put, List.setIfInBounds_toArray, List.set_cons_zero, List.set_cons_succ]
     refine wpAnyH_ready (rs := [12]) (by kernel_rfl) (by simp) ?_
     refine AllReadyH.cons (o := ⟨_, _, _, _, _, _⟩) rfl (fun K hK => ?_) AllReadyH.nil
     go_simp
     go_at_call 26
     refine (ShaOf_calls _ 3 3 _ _ pA HbP.out (fun j hj => kept_cell (Later.bel L13_3) (HK1.out j hj)) (fun j hj => kept_cell (Later.bel L13_3) (HBg1.out j hj)) Hlen.out (by omega) Hsm.out).mono ?_
     rintro e w10 ⟨rfl, hb10⟩
     rw [← HD.out]
     replace bO := (Fr.ofBelow hb10 []).blk bO (by simp)
     have L12_4 := Later.step L13_3 hb10
     refine hK.out _ _ (⟨L12_4, C0 _ L12_4, C1 _ L12_4⟩) (fun hHeldN => ?_)
     clear hK K hHeld
     have hHeld := hHeldN
     clear hHeldN
     try simp only [Act.put, List.setIfInBounds_toArray, List.set_cons_zero, List.set_cons_succ]
     refine wpAnyH_done (by kernel_rfl) ?_ _
     change wpList _ _ _ _ _ _
     refine wpList_store_row rfl 52 _ _ rfl _ _ rfl rfl 52 _ bO (by rw [ints_size, Hdl.out]; kernel_rfl) (by rw [ints_size, ints_size, Hdl.out, List.length_replicate]) (ints_one _ _) ?_
     have hrow := setRow_heap _ _ _ (ints .u8 D).toArray 52 _ bO
     go_wp2
     go_ret
     exact chsum_end HB1.out (Later.bel L12_4) hgo hrow HD4.out
   ·go_simp
    have bO := out_new (T := 52) L8_1
    have hgo := (Later.bel L8_1).size
    try simp only [World.size_alloc] at bO hgo
    have L13_2 : Later w1 _ := Later.new (.cells #[.int .u8 0, .int .u8 0, .int .u8 0, .int .u8 0, .int .u8 0, .int .u8 0, .int .u8 0, .int .u8 0, .int .u8 0, .int .u8 0, .int .u8 0, .int .u8 0, .int .u8 0, .int .u8 0, .int .u8 0, .int .u8 0, .int .u8 0, .int .u8 0, .int .u8 0, .int .u8 0, .int .u8 0, .int .u8 0, .int .u8 0, .int .u8 0, .int .u8 0, .int .u8 0, .int .u8 0, .int .u8 0, .int .u8 0, .int .u8 0, .int .u8 0, .int .u8 0] 52) L8_1
    replace rA := rd_new L13_2 rA
    replace r9 := rd_new L13_2 r9
    refine hK.out _ _ (⟨L13_2, C0 _ L13_2, C1 _ L13_2⟩) (fun hHeldN => ?_)
    clear hK K hHeld
    have hHeld := hHeldN
    clear hHeldN
    try simp only [Act.put, List.setIfInBounds_toArray, List.set_cons_zero, List.set_cons_succ]
    refine wpAnyH_ready (rs := [11]) (by kernel_rfl) (by simp) ?_
    refine AllReadyH.cons (o := ⟨_, _, _, _, _, _⟩) rfl (fun K hK => ?_) AllReadyH.nil
    go_simp
    obtain ⟨L11_3, pA⟩ := parts3 (T := 22) (c1 := 1) L13_2 rA (fun e => by cases e) (Nat.le_refl _) r9 nl9 hc9 (HR1.out.below (Later.bel L13_2)) HA.out hc
    try simp only [World.size_alloc] at pA
    replace bO := blk_new L11_3 bO
    refine hK.out _ _ (⟨L11_3, C0 _ L11_3, C1 _ L11_3⟩) (fun hHeldN => ?_)
    clear hK K hHeld
    have hHeld := hHeldN
    clear hHeldN
    try simp only [Act.put, List.setIfInBounds_toArray, List.set_cons_zero, List.set_cons_succ]
    refine wpAnyH_ready (rs := [12]) (by kernel_rfl) (by simp) ?_
    refine AllReadyH.cons (o := ⟨_, _, _, _, _, _⟩) rfl (fun K hK => ?_) AllReadyH.nil
    go_simp
    go_at_call 26
    refine (ShaOf_calls _ 3 3 _ _ pA HbP.out (fun j hj => kept_cell (Later.bel L11_3) (HK1.out j hj)) (fun j hj => kept_cell (Later.bel L11_3) (HBg1.out j hj)) Hlen.out (by omega) Hsm.out).mono ?_
    rintro e w10 ⟨rfl, hb10⟩
    rw [← HD.out]
    replace bO := (Fr.ofBelow hb10 []).blk bO (by simp)
    have L12_4 := Later.step L11_3 hb10
    refine hK.out _ _ (⟨L12_4, C0 _ L12_4, C1 _ L12_4⟩) (fun hHeldN => ?_)
    clear hK K hHeld
    have hHeld := hHeldN
    clear hHeldN
    try simp only [Act.put, List.setIfInBounds_toArray, List.set_cons_zero, List.set_cons_succ]
    refine wpAnyH_done (by kernel_rfl) ?_ _
    change wpList _ _ _ _ _ _
    refine wpList_store_row rfl 52 _ _ rfl _ _ rfl rfl 52 _ bO (by rw [ints_size, Hdl.out]; kernel_rfl) (by rw [ints_size, ints_size, Hdl.out, List.length_replicate]) (ints_one _ _) ?_
    have hrow := setRow_heap _ _ _ (ints .u8 D).toArray 52 _ bO
    go_wp2
    go_ret
    exact chsum_end HB1.out (Later.bel L12_4) hgo hrow HD4.out
  ·go_simp
   have bO := out_new (T := 52) L3_0
   have hgo := (Later.bel L3_0).size
   try simp only [World.size_alloc] at bO hgo
   have L13_1 : Later w1 _ := Later.new (.cells #[.int .u8 0, .int .u8 0, .int .u8 0, .int .u8 0, .int .u8 0, .int .u8 0, .int .u8 0, .int .u8 0, .int .u8 0, .int .u8 0, .int .u8 0, .int .u8 0, .int .u8 0, .int .u8 0, .int .u8 0, .int .u8 0, .int .u8 0, .int .u8 0, .int .u8 0, .int .u8 0, .int .u8 0, .int .u8 0, .int .u8 0, .int .u8 0, .int .u8 0, .int .u8 0, .int .u8 0, .int .u8 0, .int .u8 0, .int .u8 0, .int .u8 0, .int .u8 0] 52) L3_0
   replace rA := rd_new L13_1 rA
   refine hK.out _ _ (⟨(Later.drew L13_1), C0 _ (Later.drew L13_1), C1 _ (Later.drew L13_1)⟩) (fun hHeldN => ?_)
   clear hK K hHeld
   have hHeld := hHeldN
   clear hHeldN
   try simp only [Act.put, List.setIfInBounds_toArray, List.set_cons_zero, List.set_cons_succ]
   refine wpAnyH_ready (rs := [8]) (by kernel_rfl) (by simp) ?_
   refine AllReadyH.cons (o := ⟨_, _, _, _, _, _⟩) rfl (fun K hK => ?_) AllReadyH.nil
   go_simp
   go_at_call 17
   refine (U_calls n _ (by omega)).mono ?_
   rintro e w9 ⟨v9, rfl, ho9, hb9⟩
   obtain ⟨A9, c9, rfl, hc9, r9⟩ := own_rd ho9
   have nl9 := own_none ho9
   clear ho9
   replace rA := rd_drew rA
   replace bO := blk_drew bO
   replace rA := rA.below hb9
   replace bO := (Fr.ofBelow hb9 []).blk bO (by simp)
   have L8_2 := Later.step (Later.drew L13_1) hb9
   refine hK.out _ _ (⟨L8_2, C0 _ L8_2, C1 _ L8_2⟩) (fun hHeldN => ?_)
   clear hK K hHeld
   have hHeld := hHeldN
   clear hHeldN
   try simp only [Act.put, List.setIfInBounds_toArray, List.set_cons_zero, List.set_cons_succ]
   refine wpAnyH_ready (rs := [11]) (by kernel_rfl) (by simp) ?_
   refine AllReadyH.cons (o := ⟨_, _, _, _, _, _⟩) rfl (fun K hK => ?_) AllReadyH.nil
   go_simp
   obtain ⟨L11_3, pA⟩ := parts3 (T := 22) (c1 := 1) L8_2 rA (fun e => by cases e) (Nat.le_refl _) r9 nl9 hc9 (HR1.out.below (Later.bel L8_2)) HA.out hc
   try simp only [World.size_alloc] at pA
   replace bO := blk_new L11_3 bO
   refine hK.out _ _ (⟨L11_3, C0 _ L11_3, C1 _ L11_3⟩) (fun hHeldN => ?_)
   clear hK K hHeld
   have hHeld := hHeldN
   clear hHeldN
   try simp only [Act.put, List.setIfInBounds_toArray, List.set_cons_zero, List.set_cons_succ]
   refine wpAnyH_ready (rs := [12]) (by kernel_rfl) (by simp) ?_
   refine AllReadyH.cons (o := ⟨_, _, _, _, _, _⟩) rfl (fun K hK => ?_) AllReadyH.nil
   go_simp
   go_at_call 26
   refine (ShaOf_calls _ 3 3 _ _ pA HbP.out (fun j hj => kept_cell (Later.bel L11_3) (HK1.out j hj)) (fun j hj => kept_cell (Later.bel L11_3) (HBg1.out j hj)) Hlen.out (by omega) Hsm.out).mono ?_
   rintro e w10 ⟨rfl, hb10⟩
   rw [← HD.out]
   replace bO := (Fr.ofBelow hb10 []).blk bO (by simp)
   have L12_4 := Later.step L11_3 hb10
   refine hK.out _ _ (⟨L12_4, C0 _ L12_4, C1 _ L12_4⟩) (fun hHeldN => ?_)
   clear hK K hHeld
   have hHeld := hHeldN
   clear hHeldN
   try simp only [Act.put, List.setIfInBounds_toArray, List.set_cons_zero, List.set_cons_succ]
   refine wpAnyH_done (by kernel_rfl) ?_ _
   change wpList _ _ _ _ _ _
   refine wpList_store_row rfl 52 _ _ rfl _ _ rfl rfl 52 _ bO (by rw [ints_size, Hdl.out]; kernel_rfl) (by rw [ints_size, ints_size, Hdl.out, List.length_replicate]) (ints_one _ _) ?_
   have hrow := setRow_heap _ _ _ (ints .u8 D).toArray 52 _ bO
   go_wp2
   go_ret
   exact chsum_end HB1.out (Later.bel L12_4) hgo hrow HD4.out
 ·go_simp
  go_at_call 17
  refine (U_calls n _ (by omega)).mono ?_
  rintro e w9 ⟨v9, rfl, ho9, hb9⟩
  obtain ⟨A9, c9, rfl, hc9, r9⟩ := own_rd ho9
  have nl9 := own_none ho9
  clear ho9
  have L8_0 := Later.step (Later.drew L0) hb9
  refine hK.out _ _ (⟨L8_0, C0 _ L8_0, C1 _ L8_0⟩) (fun hHeldN => ?_)
  clear hK K hHeld
  have hHeld := hHeldN
  clear hHeldN
  try simp only [Act.put, List.setIfInBounds_toArray, List.set_cons_zero, List.set_cons_succ]
  refine wpAnyH_ready (rs := [3, 13]) (by kernel_rfl) (by simp) ?_
  refine AllReadyH.cons (o := ⟨_, _, _, _, _, _⟩) rfl (fun K hK => ?_) (AllReadyH.cons (o := ⟨_, _, _, _, _, _⟩) rfl (fun K hK => ?_) AllReadyH.nil)
  ·go_simp
   have rA := lit_rd (T := 5) L8_0 k
   try simp only [World.size_alloc] at rA
   have L3_1 : Later w1 _ := Later.new (.cells #[.int .u8 k] 5) L8_0
   replace r9 := rd_new L3_1 r9
   refine hK.out _ _ (⟨L3_1, C0 _ L3_1, C1 _ L3_1⟩) (fun hHeldN => ?_)
   clear hK K hHeld
   have hHeld := hHeldN
   clear hHeldN
   try simp only [Act.put, List.setIfInBounds_toArray, List.set_cons_zero, List.set_cons_succ]
   refine wpAnyH_ready (rs := [11, 13]) (by kernel_rfl) (by simp) ?_
   refine AllReadyH.cons (o := ⟨_, _, _, _, _, _⟩) rfl (fun K hK => ?_) (AllReadyH.cons (o := ⟨_, _, _, _, _, _⟩) rfl (fun K hK => ?_) AllReadyH.nil)
   ·go_simp
    obtain ⟨L11_2, pA⟩ := parts3 (T := 22) (c1 := 1) L3_1 rA (fun e => by cases e) (Nat.le_refl _) r9 nl9 hc9 (HR1.out.below (Later.bel L3_1)) HA.out hc
    try simp only [World.size_alloc] at pA
    refine hK.out _ _ (⟨L11_2, C0 _ L11_2, C1 _ L11_2⟩) (fun hHeldN => ?_)
    clear hK K hHeld
    have hHeld := hHeldN
    clear hHeldN
    try simp only [Act.put, List.setIfInBounds_toArray, List.set_cons_zero, List.set_cons_succ]
    refine wpAnyH_ready (rs := [12, 13]) (by kernel_rfl) (by simp) ?_
    refine AllReadyH.cons (o := ⟨_, _, _, _, _, _⟩) rfl (fun K hK => ?_) (AllReadyH.cons (o := ⟨_, _, _, _, _, _⟩) rfl (fun K hK => ?_) AllReadyH.nil)
    ·go_simp
     go_at_call 26
     refine (ShaOf_calls _ 3 3 _ _ pA HbP.out (fun j hj => kept_cell (Later.bel L11_2) (HK1.out j hj)) (fun j hj => kept_cell (Later.bel L11_2) (HBg1.out j hj)) Hlen.out (by omega) Hsm.out).mono ?_
     rintro e w10 ⟨rfl, hb10⟩
     rw [← HD.out]
     have L12_3 := Later.step L11_2 hb10
     refine hK.out _ _ (⟨L12_3, C0 _ L12_3, C1 _ L12_3⟩) (fun hHeldN => ?_)
     clear hK K hHeld
     have hHeld := hHeldN
     clear hHeldN
     try simp only [Act.put, List.setIfInBounds_toArray, List.set_cons_zero, List.set_cons_succ]
     refine wpAnyH_ready (rs := [13]) (by kernel_rfl) (by simp) ?_
     refine AllReadyH.cons (o := ⟨_, _, _, _, _, _⟩) rfl (fun K hK => ?_) AllReadyH.nil
     go_simp
     have bO := out_new (T := 52) L12_3
     have hgo := (Later.bel L12_3).size
     try simp only [World.size_alloc] at bO hgo
     have L13_4 : Later w1 _ := Later.new (.cells #[.int .u8 0, .int .u8 0, .int .u8 0, .int .u8 0, .int .u8 0, .int .u8 0, .int .u8 0, .int .u8 0, .int .u8 0, .int .u8 0, .int .u8 0, .int .u8 0, .int .u8 0, .int .u8 0, .int .u8 0, .int .u8 0, .int .u8 0, .int .u8 0, .int .u8 0, .int .u8 0, .int .u8 0, .int .u8 0, .int .u8 0, .int .u8 0, .int .u8 0, .int .u8 0, .int .u8 0, .int .u8 0, .int .u8 0, .int .u8 0, .int .u8 0, .int .u8 0] 52) L12_3
     refine hK.out _ _ (⟨L13_4, C0 _ L13_4, C1 _ L13_4⟩) (fun hHeldN => ?_)
     clear hK K hHeld
     have hHeld := hHeldN
     clear hHeldN
     try simp only [Act.put, List.setIfInBounds_toArray, List.set_cons_zero, List.set_cons_succ]
     refine wpAnyH_done (by kernel_rfl) ?_ _
     change wpList _ _ _ _ _ _
     refine wpList_store_row rfl 52 _ _ rfl _ _ rfl rfl 52 _ bO (by rw [ints_size, Hdl.out]; kernel_rfl) (by rw [ints_size, ints_size, Hdl.out, List.length_replicate]) (ints_one _ _) ?_
     have hrow := setRow_heap _ _ _ (ints .u8 D).toArray 52 _ bO
     go_wp2
     go_ret
     exact chsum_end HB1.out (Later.bel L13_4) hgo hrow HD4.out
    ·go_simp
     have bO := out_new (T := 52) L11_2
     have hgo := (Later.bel L11_2).size
     try simp only [World.size_alloc] at bO hgo
     have L13_3 : Later w1 _ := Later.new (.cells #[.int .u8 0, .int .u8 0, .int .u8 0, .int .u8 0, .int .u8 0, .int .u8 0, .int .u8 0, .int .u8 0, .int .u8 0, .int .u8 0, .int .u8 0, .int .u8 0, .int .u8 0, .int .u8 0, .int .u8 0, .int .u8 0, .int .u8 0, .int .u8 0, .int .u8 0, .int .u8 0, .int .u8 0, .int .u8 0, .int .u8 0, .int .u8 0, .int .u8 0, .int .u8 0, .int .u8 0, .int .u8 0, .int .u8 0, .int .u8 0, .int .u8 0, .int .u8 0] 52) L11_2
     replace pA := parts_new L13_3 pA
     refine hK.out _ _ (⟨L13_3, C0 _ L13_3, C1 _ L13_3⟩) (fun hHeldN => ?_)
     clear hK K hHeld
     have hHeld := hHeldN
     clear hHeldN
     try simp only [Act.put, List.setIfInBounds_toArray, List.set_cons_zero, List.set_cons_succ]
     refine wpAnyH_ready (rs := [12]) (by kernel_rfl) (by simp) ?_
     refine AllReadyH.cons (o := ⟨_, _, _, _, _, _⟩) rfl (fun K hK => ?_) AllReadyH.nil
     go_simp
     go_at_call 26
     refine (ShaOf_calls _ 3 3 _ _ pA HbP.out (fun j hj => kept_cell (Later.bel L13_3) (HK1.out j hj)) (fun j hj => kept_cell (Later.bel L13_3) (HBg1.out j hj)) Hlen.out (by omega) Hsm.out).mono ?_
     rintro e w10 ⟨rfl, hb10⟩
     rw [← HD.out]
     replace bO := (Fr.ofBelow hb10 []).blk bO (by simp)
     have L12_4 := Later.step L13_3 hb10
     refine hK.out _ _ (⟨L12_4, C0 _ L12_4, C1 _ L12_4⟩) (fun hHeldN => ?_)
     clear hK K hHeld
     have hHeld := hHeldN
     clear hHeldN
     try simp only [Act.put, List.setIfInBounds_toArray, List.set_cons_zero, List.set_cons_succ]
     refine wpAnyH_done (by kernel_rfl) ?_ _
     change wpList _ _ _ _ _ _
     refine wpList_store_row rfl 52 _ _ rfl _ _ rfl rfl 52 _ bO (by rw [ints_size, Hdl.out]; kernel_rfl) (by rw [ints_size, ints_size, Hdl.out, List.length_replicate]) (ints_one _ _) ?_
     have hrow := setRow_heap _ _ _ (ints .u8 D).toArray 52 _ bO
     go_wp2
     go_ret
     exact chsum_end HB1.out (Later.bel L12_4) hgo hrow HD4.out
   ·go_simp
    have bO := out_new (T := 52) L3_1
    have hgo := (Later.bel L3_1).size
    try simp only [World.size_alloc] at bO hgo
    have L13_2 : Later w1 _ := Later.new (.cells #[.int .u8 0, .int .u8 0, .int .u8 0, .int .u8 0, .int .u8 0, .int .u8 0, .int .u8 0, .int .u8 0, .int .u8 0, .int .u8 0, .int .u8 0, .int .u8 0, .int .u8 0, .int .u8 0, .int .u8 0, .int .u8 0, .int .u8 0, .int .u8 0, .int .u8 0, .int .u8 0, .int .u8 0, .int .u8 0, .int .u8 0, .int .u8 0, .int .u8 0, .int .u8 0, .int .u8 0, .int .u8 0, .int .u8 0, .int .u8 0, .int .u8 0, .int .u8 0] 52) L3_1
    replace r9 := rd_new L13_2 r9
    replace rA := rd_new L13_2 rA
    refine hK.out _ _ (⟨L13_2, C0 _ L13_2, C1 _ L13_2⟩) (fun hHeldN => ?_)
    clear hK K hHeld
    have hHeld := hHeldN
    clear hHeldN
    try simp only [Act.put, List.setIfInBounds_toArray, List.set_cons_zero, List.set_cons_succ]
    refine wpAnyH_ready (rs := [11]) (by kernel_rfl) (by simp) ?_
    refine AllReadyH.cons (o := ⟨_, _, _, _, _, _⟩) rfl (fun K hK => ?_) AllReadyH.nil
    go_simp
    obtain ⟨L11_3, pA⟩ := parts3 (T := 22) (c1 := 1) L13_2 rA (fun e => by cases e) (Nat.le_refl _) r9 nl9 hc9 (HR1.out.below (Later.bel L13_2)) HA.out hc
    try simp only [World.size_alloc] at pA
    replace bO := blk_new L11_3 bO
    refine hK.out _ _ (⟨L11_3, C0 _ L11_3, C1 _ L11_3⟩) (fun hHeldN => ?_)
    clear hK K hHeld
    have hHeld := hHeldN
    clear hHeldN
    try simp only [Act.put, List.setIfInBounds_toArray, List.set_cons_zero, List.set_cons_succ]
    refine wpAnyH_ready (rs := [12]) (by kernel_rfl) (by simp) ?_
    refine AllReadyH.cons (o := ⟨_, _, _, _, _, _⟩) rfl (fun K hK => ?_) AllReadyH.nil
    go_simp
    go_at_call 26
    refine (ShaOf_calls _ 3 3 _ _ pA HbP.out (fun j hj => kept_cell (Later.bel L11_3) (HK1.out j hj)) (fun j hj => kept_cell (Later.bel L11_3) (HBg1.out j hj)) Hlen.out (by omega) Hsm.out).mono ?_
    rintro e w10 ⟨rfl, hb10⟩
    rw [← HD.out]
    replace bO := (Fr.ofBelow hb10 []).blk bO (by simp)
    have L12_4 := Later.step L11_3 hb10
    refine hK.out _ _ (⟨L12_4, C0 _ L12_4, C1 _ L12_4⟩) (fun hHeldN => ?_)
    clear hK K hHeld
    have hHeld := hHeldN
    clear hHeldN
    try simp only [Act.put, List.setIfInBounds_toArray, List.set_cons_zero, List.set_cons_succ]
    refine wpAnyH_done (by kernel_rfl) ?_ _
    change wpList _ _ _ _ _ _
    refine wpList_store_row rfl 52 _ _ rfl _ _ rfl rfl 52 _ bO (by rw [ints_size, Hdl.out]; kernel_rfl) (by rw [ints_size, ints_size, Hdl.out, List.length_replicate]) (ints_one _ _) ?_
    have hrow := setRow_heap _ _ _ (ints .u8 D).toArray 52 _ bO
    go_wp2
    go_ret
    exact chsum_end HB1.out (Later.bel L12_4) hgo hrow HD4.out
  ·go_simp
   have bO := out_new (T := 52) L8_0
   have hgo := (Later.bel L8_0).size
   try simp only [World.size_alloc] at bO hgo
   have L13_1 : Later w1 _ := Later.new (.cells #[.int .u8 0, .int .u8 0, .int .u8 0, .int .u8 0, .int .u8 0, .int .u8 0, .int .u8 0, .int .u8 0, .int .u8 0, .int .u8 0, .int .u8 0, .int .u8 0, .int .u8 0, .int .u8 0, .int .u8 0, .int .u8 0, .int .u8 0, .int .u8 0, .int .u8 0, .int .u8 0, .int .u8 0, .int .u8 0, .int .u8 0, .int .u8 0, .int .u8 0, .int .u8 0, .int .u8 0, .int .u8 0, .int .u8 0, .int .u8 0, .int .u8 0, .int .u8 0] 52) L8_0
   replace r9 := rd_new L13_1 r9
   refine hK.out _ _ (⟨L13_1, C0 _ L13_1, C1 _ L13_1⟩) (fun hHeldN => ?_)
   clear hK K hHeld
   have hHeld := hHeldN
   clear hHeldN
   try simp only [Act.put, List.setIfInBounds_toArray, List.set_cons_zero, List.set_cons_succ]
   refine wpAnyH_ready (rs := [3]) (by kernel_rfl) (by simp) ?_
   refine AllReadyH.cons (o := ⟨_, _, _, _, _, _⟩) rfl (fun K hK => ?_) AllReadyH.nil
   go_simp
   have rA := lit_rd (T := 5) L13_1 k
   try simp only [World.size_alloc] at rA
   have L3_2 : Later w1 _ := Later.new (.cells #[.int .u8 k] 5) L13_1
   replace r9 := rd_new L3_2 r9
   replace bO := blk_new L3_2 bO
   refine hK.out _ _ (⟨L3_2, C0 _ L3_2, C1 _ L3_2⟩) (fun hHeldN => ?_)
   clear hK K hHeld
   have hHeld := hHeldN
   clear hHeldN
   try simp only [Act.put, List.setIfInBounds_toArray, List.set_cons_zero, List.set_cons_succ]
   refine wpAnyH_ready (rs := [11]) (by kernel_rfl) (by simp) ?_
   refine AllReadyH.cons (o := ⟨_, _, _, _, _, _⟩) rfl (fun K hK => ?_) AllReadyH.nil
   go_simp
   obtain ⟨L11_3, pA⟩ := parts3 (T := 22) (c1 := 1) L3_2 rA (fun e => by cases e) (Nat.le_refl _) r9 nl9 hc9 (HR1.out.below (Later.bel L3_2)) HA.out hc
   try simp only [World.size_alloc] at pA
   replace bO := blk_new L11_3 bO
   refine hK.out _ _ (⟨L11_3, C0 _ L11_3, C1 _ L11_3⟩) (fun hHeldN => ?_)
   clear hK K hHeld
   have hHeld := hHeldN
   clear hHeldN
   try simp only [Act.put, List.setIfInBounds_toArray, List.set_cons_zero, List.set_cons_succ]
   refine wpAnyH_ready (rs := [12]) (by kernel_rfl) (by simp) ?_
   refine AllReadyH.cons (o := ⟨_, _, _, _, _, _⟩) rfl (fun K hK => ?_) AllReadyH.nil
   go_simp
   go_at_call 26
   refine (ShaOf_calls _ 3 3 _ _ pA HbP.out (fun j hj => kept_cell (Later.bel L11_3) (HK1.out j hj)) (fun j hj => kept_cell (Later.bel L11_3) (HBg1.out j hj)) Hlen.out (by omega) Hsm.out).mono ?_
   rintro e w10 ⟨rfl, hb10⟩
   rw [← HD.out]
   replace bO := (Fr.ofBelow hb10 []).blk bO (by simp)
   have L12_4 := Later.step L11_3 hb10
   refine hK.out _ _ (⟨L12_4, C0 _ L12_4, C1 _ L12_4⟩) (fun hHeldN => ?_)
   clear hK K hHeld
   have hHeld := hHeldN
   clear hHeldN
   try simp only [Act.put, List.setIfInBounds_toArray, List.set_cons_zero, List.set_cons_succ]
   refine wpAnyH_done (by kernel_rfl) ?_ _
   change wpList _ _ _ _ _ _
   refine wpList_store_row rfl 52 _ _ rfl _ _ rfl rfl 52 _ bO (by rw [ints_size, Hdl.out]; kernel_rfl) (by rw [ints_size, ints_size, Hdl.out, List.length_replicate]) (ints_one _ _) ?_
   have hrow := setRow_heap _ _ _ (ints .u8 D).toArray 52 _ bO
   go_wp2
   go_ret
   exact chsum_end HB1.out (Later.bel L12_4) hgo hrow HD4.out
 ·go_simp
  have bO := out_new (T := 52) L0
  have hgo := (Later.bel L0).size
  try simp only [World.size_alloc] at bO hgo
  have L13_0 : Later w1 _ := Later.new (.cells #[.int .u8 0, .int .u8 0, .int .u8 0, .int .u8 0, .int .u8 0, .int .u8 0, .int .u8 0, .int .u8 0, .int .u8 0, .int .u8 0, .int .u8 0, .int .u8 0, .int .u8 0, .int .u8 0, .int .u8 0, .int .u8 0, .int .u8 0, .int .u8 0, .int .u8 0, .int .u8 0, .int .u8 0, .int .u8 0, .int .u8 0, .int .u8 0, .int .u8 0, .int .u8 0, .int .u8 0, .int .u8 0, .int .u8 0, .int .u8 0, .int .u8 0, .int .u8 0] 52) L0
  refine hK.out _ _ (⟨(Later.drew L13_0), C0 _ (Later.drew L13_0), C1 _ (Later.drew L13_0)⟩) (fun hHeldN => ?_)
  clear hK K hHeld
  have hHeld := hHeldN
  clear hHeldN
  try simp only [Act.put, List.setIfInBounds_toArray, List.set_cons_zero, List.set_cons_succ]
  refine wpAnyH_ready (rs := [3, 8]) (by kernel_rfl) (by simp) ?_
  refine AllReadyH.cons (o := ⟨_, _, _, _, _, _⟩) rfl (fun K hK => ?_) (AllReadyH.cons (o := ⟨_, _, _, _, _, _⟩) rfl (fun K hK => ?_) AllReadyH.nil)
  ·go_simp
   have rA := lit_rd (T := 5) L13_0 k
   try simp only [World.size_alloc] at rA
   have L3_1 : Later w1 _ := Later.new (.cells #[.int .u8 k] 5) L13_0
   replace bO := blk_new L3_1 bO
   refine hK.out _ _ (⟨(Later.drew L3_1), C0 _ (Later.drew L3_1), C1 _ (Later.drew L3_1)⟩) (fun hHeldN => ?_)
   clear hK K hHeld
   have hHeld := hHeldN
   clear hHeldN
   try simp only [Act.put, List.setIfInBounds_toArray, List.set_cons_zero, List.set_cons_succ]
   refine wpAnyH_ready (rs := [8]) (by kernel_rfl) (by simp) ?_
   refine AllReadyH.cons (o := ⟨_, _, _, _, _, _⟩) rfl (fun K hK => ?_) AllReadyH.nil
   go_simp
   go_at_call 17
   refine (U_calls n _ (by omega)).mono ?_
   rintro e w9 ⟨v9, rfl, ho9, hb9⟩
   obtain ⟨A9, c9, rfl, hc9, r9⟩ := own_rd ho9
   have nl9 := own_none ho9
   clear ho9
   replace bO := blk_drew bO
   replace rA := rd_drew rA
   replace bO := (Fr.ofBelow hb9 []).blk bO (by simp)
   replace rA := rA.below hb9
   have L8_2 := Later.step (Later.drew L3_1) hb9
   refine hK.out _ _ (⟨L8_2, C0 _ L8_2, C1 _ L8_2⟩) (fun hHeldN => ?_)
   clear hK K hHeld
   have hHeld := hHeldN
   clear hHeldN
   try simp only [Act.put, List.setIfInBounds_toArray, List.set_cons_zero, List.set_cons_succ]
   refine wpAnyH_ready (rs := [11]) (by kernel_rfl) (by simp) ?_
   refine AllReadyH.cons (o := ⟨_, _, _, _, _, _⟩) rfl (fun K hK => ?_) AllReadyH.nil
   go_simp
   obtain ⟨L11_3, pA⟩ := parts3 (T := 22) (c1 := 1) L8_2 rA (fun e => by cases e) (Nat.le_refl _) r9 nl9 hc9 (HR1.out.below (Later.bel L8_2)) HA.out hc
   try simp only [World.size_alloc] at pA
   replace bO := blk_new L11_3 bO
   refine hK.out _ _ (⟨L11_3, C0 _ L11_3, C1 _ L11_3⟩) (fun hHeldN => ?_)
   clear hK K hHeld
   have hHeld := hHeldN
   clear hHeldN
   try simp only [Act.put, List.setIfInBounds_toArray, List.set_cons_zero, List.set_cons_succ]
   refine wpAnyH_ready (rs := [12]) (by kernel_rfl) (by simp) ?_
   refine AllReadyH.cons (o := ⟨_, _, _, _, _, _⟩) rfl (fun K hK => ?_) AllReadyH.nil
   go_simp
   go_at_call 26
   refine (ShaOf_calls _ 3 3 _ _ pA HbP.out (fun j hj => kept_cell (Later.bel L11_3) (HK1.out j hj)) (fun j hj => kept_cell (Later.bel L11_3) (HBg1.out j hj)) Hlen.out (by omega) Hsm.out).mono ?_
   rintro e w10 ⟨rfl, hb10⟩
   rw [← HD.out]
   replace bO := (Fr.ofBelow hb10 []).blk bO (by simp)
   have L12_4 := Later.step L11_3 hb10
   refine hK.out _ _ (⟨L12_4, C0 _ L12_4, C1 _ L12_4⟩) (fun hHeldN => ?_)
   clear hK K hHeld
   have hHeld := hHeldN
   clear hHeldN
   try simp only [Act.put, List.setIfInBounds_toArray, List.set_cons_zero, List.set_cons_succ]
   refine wpAnyH_done (by kernel_rfl) ?_ _
   change wpList _ _ _ _ _ _
   refine wpList_store_row rfl 52 _ _ rfl _ _ rfl rfl 52 _ bO (by rw [ints_size, Hdl.out]; kernel_rfl) (by rw [ints_size, ints_size, Hdl.out, List.length_replicate]) (ints_one _ _) ?_
   have hrow := setRow_heap _ _ _ (ints .u8 D).toArray 52 _ bO
   go_wp2
   go_ret
   exact chsum_end HB1.out (Later.bel L12_4) hgo hrow HD4.out
  ·go_simp
   go_at_call 17
   refine (U_calls n _ (by omega)).mono ?_
   rintro e w9 ⟨v9, rfl, ho9, hb9⟩
   obtain ⟨A9, c9, rfl, hc9, r9⟩ := own_rd ho9
   have nl9 := own_none ho9
   clear ho9
   replace bO := blk_drew bO
   replace bO := (Fr.ofBelow hb9 []).blk bO (by simp)
   have L8_1 := Later.step (Later.drew L13_0) hb9
   refine hK.out _ _ (⟨L8_1, C0 _ L8_1, C1 _ L8_1⟩) (fun hHeldN => ?_)
   clear hK K hHeld
   have hHeld := hHeldN
   clear hHeldN
   try simp only [Act.put, List.setIfInBounds_toArray, List.set_cons_zero, List.set_cons_succ]
   refine wpAnyH_ready (rs := [3]) (by kernel_rfl) (by simp) ?_
   refine AllReadyH.cons (o := ⟨_, _, _, _, _, _⟩) rfl (fun K hK => ?_) AllReadyH.nil
   go_simp
   have rA := lit_rd (T := 5) L8_1 k
   try simp only [World.size_alloc] at rA
   have L3_2 : Later w1 _ := Later.new (.cells #[.int .u8 k] 5) L8_1
   replace bO := blk_new L3_2 bO
   replace r9 := rd_new L3_2 r9
   refine hK.out _ _ (⟨L3_2, C0 _ L3_2, C1 _ L3_2⟩) (fun hHeldN => ?_)
   clear hK K hHeld
   have hHeld := hHeldN
   clear hHeldN
   try simp only [Act.put, List.setIfInBounds_toArray, List.set_cons_zero, List.set_cons_succ]
   refine wpAnyH_ready (rs := [11]) (by kernel_rfl) (by simp) ?_
   refine AllReadyH.cons (o := ⟨_, _, _, _, _, _⟩) rfl (fun K hK => ?_) AllReadyH.nil
   go_simp
   obtain ⟨L11_3, pA⟩ := parts3 (T := 22) (c1 := 1) L3_2 rA (fun e => by cases e) (Nat.le_refl _) r9 nl9 hc9 (HR1.out.below (Later.bel L3_2)) HA.out hc
   try simp only [World.size_alloc] at pA
   replace bO := blk_new L11_3 bO
   refine hK.out _ _ (⟨L11_3, C0 _ L11_3, C1 _ L11_3⟩) (fun hHeldN => ?_)
   clear hK K hHeld
   have hHeld := hHeldN
   clear hHeldN
   try simp only [Act.put, List.setIfInBounds_toArray, List.set_cons_zero, List.set_cons_succ]
   refine wpAnyH_ready (rs := [12]) (by kernel_rfl) (by simp) ?_
   refine AllReadyH.cons (o := ⟨_, _, _, _, _, _⟩) rfl (fun K hK => ?_) AllReadyH.nil
   go_simp
   go_at_call 26
   refine (ShaOf_calls _ 3 3 _ _ pA HbP.out (fun j hj => kept_cell (Later.bel L11_3) (HK1.out j hj)) (fun j hj => kept_cell (Later.bel L11_3) (HBg1.out j hj)) Hlen.out (by omega) Hsm.out).mono ?_
   rintro e w10 ⟨rfl, hb10⟩
   rw [← HD.out]
   replace bO := (Fr.ofBelow hb10 []).blk bO (by simp)
   have L12_4 := Later.step L11_3 hb10
   refine hK.out _ _ (⟨L12_4, C0 _ L12_4, C1 _ L12_4⟩) (fun hHeldN => ?_)
   clear hK K hHeld
   have hHeld := hHeldN
   clear hHeldN
   try simp only [Act.put, List.setIfInBounds_toArray, List.set_cons_zero, List.set_cons_succ]
   refine wpAnyH_done (by kernel_rfl) ?_ _
   change wpList _ _ _ _ _ _
   refine wpList_store_row rfl 52 _ _ rfl _ _ rfl rfl 52 _ bO (by rw [ints_size, Hdl.out]; kernel_rfl) (by rw [ints_size, ints_size, Hdl.out, List.length_replicate]) (ints_one _ _) ?_
   have hrow := setRow_heap _ _ _ (ints .u8 D).toArray 52 _ bO
   go_wp2
   go_ret
   exact chsum_end HB1.out (Later.bel L12_4) hgo hrow HD4.out
end Go.Proofs.YtendohnkhbgfbaaDoor
