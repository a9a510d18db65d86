/-
  Texts joined into one file: ChunkPuts.
-/
import Derived.Test.YtendohnkhbgfbaaDoorJChunkPuts1
import Derived.Test.YtendohnkhbgfbaaDoorJChunkPuts3
import Derived.Test.YtendohnkhbgfbaaDoorJRefPk29
import Derived.Deep.RegionHeld3
namespace Go.Proofs.YtendohnkhbgfbaaDoor
open Go.RowKit

theorem two_chunks {W : World} {K K2 : Int} {A B : Option Addr} {n c n2 c2 : Nat} {l l2 : List Int} {T : TypeId} (r : Rd W .u8 A n l) (e : A = none → n = 0 ∧ c = 0) (hc : n ≤ c) (r2 : Rd W .u8 B n2 l2) (e2 : B = none → n2 = 0 ∧ c2 = 0) (hc2 : n2 ≤ c2) :
  ChunksAt (W.alloc (.cells #[.int .i64 K, .slice A n c, .int .i64 K2, .slice B n2 c2] T)) (some ⟨W.heap.size, 0, none⟩) 2 [(K, l), (K2, l2)] := by
 have hb : Below W.heap.size W (W.alloc (.cells #[.int .i64 K, .slice A n c, .int .i64 K2, .slice B n2 c2] T)) := (Below.refl _ _).alloc (Nat.le_refl _) _
 refine ⟨rfl, fun _ => ⟨W.heap.size, 0, rfl, fun j hj => ?_⟩⟩
 rcases (show j = 0 ∨ j = 1 by omega) with rfl | rfl
 ·exact ⟨A, n, c, by rw [cell_of_row _ W.heap.size _ _ _ (0, 0) (heap_alloc_new W _)]; rfl, by rw [cell_of_row _ W.heap.size _ _ _ (0, 0) (heap_alloc_new W _)]; rfl, r.below hb, e, hc⟩
 ·exact ⟨B, n2, c2, by rw [cell_of_row _ W.heap.size _ _ _ (0, 0) (heap_alloc_new W _)]; rfl, by rw [cell_of_row _ W.heap.size _ _ _ (0, 0) (heap_alloc_new W _)]; rfl, r2.below hb, e2, hc2⟩
set_option maxHeartbeats 1000000 in set_option maxRecDepth 100000 in
theorem ChunkPuts_calls (hP : RPlain) (A : Option Addr) (len cap : Nat) (bs : List Int) (B : Option Addr) (len2 cap2 : Nat) (ms : List Int) (pr : Bool) (w : World) (hR : Rd w .u8 A len bs) (hb : ∀ x ∈ bs, 0 ≤ x ∧ x ≤ 255) (hA : A = none → len = 0 ∧ cap = 0) (hcap : len ≤ cap) (hlen : len ≤ 140737488351232)
  (hR2 : Rd w .u8 B len2 ms) (hb2 : ∀ x ∈ ms, 0 ≤ x ∧ x ≤ 255) (hB : B = none → len2 = 0 ∧ cap2 = 0) (hcap2 : len2 ≤ cap2) (hlen2 : len2 ≤ 140737488351232) (hL : Tabs22 w) :
  Calls Tryd.prog 3 #[.slice A len cap, .slice B len2 cap2, .bool pr] w fun e w' => e = .returned (.bool true) ∧ Below w.heap.size w w' := by
 have HA := Lib.hid hA
 have HB := Lib.hid hB
 have HT := Lib.hid hL
 have HR := Lib.hid hR
 have HR2 := Lib.hid hR2
 have Hb := Lib.hid hb
 have Hb2 := Lib.hid hb2
 have Hl := Lib.hid hR.1
 have Hl2 := Lib.hid hR2.1
 have HP := Lib.hid hP
 clear hR hb hL hA hR2 hb2 hB hP
 go_enter Tryd.func3, Tryd.ntmps3
 go_wp2_with fail
 refine (awake22_calls _ HT.out).mono ?_
 rintro e w1 ⟨rfl, hb1⟩
 have HB1 := Lib.hid hb1
 clear hb1
 by_cases hle : len ≤ 900
 ·by_cases hle2 : len2 ≤ 900
  ·cases pr
   ·go_wp2_with fail
    have hb2' : Below w1.heap.size w1 (w1.alloc (.cells #[.int .i64 1, .slice A len cap, .int .i64 2, .slice B len2 cap2] 26)) := (Below.refl _ _).alloc (Nat.le_refl _) _
    have HB1' := Lib.hid (below_seq HB1.out (Nat.le_refl _) hb2')
    have hput : putsB [(1, bs), (2, ms)] 2 = chunkB 1 bs ++ chunkB 2 ms := by simp [putsB, putK]
    have hl1 := chunkB_length 1 bs
    have hl2 := chunkB_length 2 ms
    have hlb1 := lebU_10 (n := bs.length) (by rw [Hl.out]; omega)
    have hlb2 := lebU_10 (n := ms.length) (by rw [Hl2.out]; omega)
    rw [Hl.out] at hl1 hlb1
    rw [Hl2.out] at hl2 hlb2
    refine (ChPut_calls (some ⟨w1.heap.size, 0, none⟩) 2 2 [(1, bs), (2, ms)] _ (two_chunks (HR.out.below HB1.out) HA.out hcap (HR2.out.below HB1.out) HB.out hcap2) (fun x hx => by
     simp only [List.mem_cons, List.not_mem_nil, or_false] at hx
     rcases hx with rfl | rfl
     ·exact ⟨by omega, by show bs.length ≤ _; rw [Hl.out]; omega, Hb.out⟩
     ·exact ⟨by omega, by show ms.length ≤ _; rw [Hl2.out]; omega, Hb2.out⟩) (by show (putsB [(1, bs), (2, ms)] 2).length ≤ _; rw [hput, List.length_append, hl1, hl2]; omega) (by omega) (HT.out.below HB1'.out).keys (HT.out.below HB1'.out).beg (HT.out.below HB1'.out).mag).mono ?_
    rintro e w2 ⟨v2, rfl, HO2, hb2⟩
    rw [show ([(1, bs), (2, ms)] : List (Int × List Int)).length = 2 from rfl, hput] at HO2
    obtain ⟨m2, hm2⟩ : ∃ m, m = (chunkB 1 bs ++ chunkB 2 ms).length := ⟨_, rfl⟩
    rw [← hm2] at HO2
    obtain ⟨A2, c2, e2, _, hr2⟩ := own_rd HO2.out
    subst e2
    have Hr2 := Lib.hid hr2
    have HB2 := Lib.hid (below_seq HB1'.out (Nat.le_refl _) hb2)
    clear hb2' hput hl1 hl2 hlb1 hlb2 hm2 hr2 hb2 HO2
    go_wp2_with fail
    refine (ChPack_calls A len cap bs _ (HR.out.below HB2.out) Hb.out HA.out hcap (by omega) (HT.out.below HB2.out).tabs (HT.out.below HB2.out).ord).mono ?_
    rintro e w3 ⟨A3, n3, c3, rfl, HO3, hb3⟩
    obtain ⟨K3, hK3⟩ : ∃ K, K = (packK bs).1 := ⟨_, rfl⟩
    obtain ⟨C3, hC3⟩ : ∃ C, C = (packK bs).2 := ⟨_, rfl⟩
    rw [← hC3] at HO3
    rw [← hK3]
    have HK3 := Lib.hid hK3
    have HC3 := Lib.hid hC3
    clear hK3 hC3
    obtain ⟨_, _, e3, _, hr3⟩ := own_rd HO3.out
    cases e3
    go_upto_region 8 with fail
    obtain ⟨g9, hg9⟩ : ∃ g, g = w3.heap.size := ⟨_, rfl⟩
    obtain ⟨w4, hw4⟩ : ∃ X, X = w3.alloc (.cells #[.int .i64 K3, .slice A3 n3 c3] 26) := ⟨_, rfl⟩
    rw [← hw4, ← hg9]
    have hb4 : Below w3.heap.size w3 w4 := by rw [hw4]; exact (Below.refl _ _).alloc (Nat.le_refl _) _
    have hrow4 : w4.heap[g9]? = some (.cells #[.int .i64 K3, .slice A3 n3 c3] 26 (0, 0)) := by rw [hw4, hg9]; exact heap_alloc_new w3 _
    have HX3 := Lib.hid hb3
    have HX4 := Lib.hid (below_seq hb3 (Nat.le_refl _) hb4)
    have HB4 := Lib.hid (below_seq HB2.out (Nat.le_refl _) HX4.out)
    have HK0 := Lib.hid (two_c0 hrow4)
    have HK1 := Lib.hid (two_c1 hrow4)
    have Hr3 := Lib.hid (hr3.below hb4)
    clear hw4 hg9 hb4 hrow4 hb3 hr3 HO3
    go_wp2_with fail
    refine (rPack_calls A len cap bs _ (HR.out.below HB4.out) Hb.out HA.out hcap (by omega)).mono ?_
    rintro e w5 ⟨A5, n5, c5, rfl, Hr5, Hn5, _, hb5⟩
    rw [← HK3.out]
    rw [← HC3.out] at Hr5
    have HB5 := Lib.hid (below_seq HB4.out (Nat.le_refl _) hb5)
    have L0 := Later.refl w5
    have C0 := Later.cell (kept_cell hb5 HK0.out)
    have C1 := Later.cell (kept_cell hb5 HK1.out)
    obtain ⟨s1, hs1⟩ : ∃ s, s = strOfNums (chunkB 1 bs) := ⟨_, rfl⟩
    obtain ⟨s2, hs2⟩ : ∃ s, s = strOfNums (chunkB 2 ms) := ⟨_, rfl⟩
    obtain ⟨s3, hs3⟩ : ∃ s, s = strOfNums C3 := ⟨_, rfl⟩
    have V1 := conv_allL (c := c2) (Hr2.out.below (below_seq HX4.out (Nat.le_refl _) hb5))
    have V2 := conv_allL (c := c3) (Hr3.out.below hb5)
    have V3 := conv_allL (c := c5) Hr5.out
    rw [strOfNums_app, ← hs1, ← hs2] at V1
    rw [← hs3] at V2 V3
    have hsum : ¬ 9223372036854775807 < s1.size + s2.size := by
     have hlb1 := lebU_10 (n := bs.length) (by rw [Hl.out]; omega)
     have hlb2 := lebU_10 (n := ms.length) (by rw [Hl2.out]; omega)
     rw [hs1, hs2, strOfNums_size, strOfNums_size, chunkB_length, chunkB_length, Hl.out, Hl2.out]
     rw [Hl.out] at hlb1
     rw [Hl2.out] at hlb2
     omega
    have q1 : ((s1 ++ s2).toList == (s1 ++ s2).toList) = true := by rw [tl_beq]; exact decide_eq_true rfl
    have q3 : (s3.toList == s3.toList) = true := by rw [tl_beq]; exact decide_eq_true rfl
    have H1 := Lib.hid hs1
    have H2 := Lib.hid hs2
    clear hb5 hs1 hs2 hs3
    go_upto_region 9 with fail
    refine wp_region_noPanic ?_
    refine wp_region_held_drew (S := fun W => Later w5 W ∧ W.cell? ⟨g9, 0, none⟩ = some (.int .i64 K3) ∧ W.cell? ⟨g9, 1, none⟩ = some (.slice A3 n3 c3) ∧ (convert 22 9 (.slice A2 m2 c2)).run Tryd.prog W = .ok (.string (s1 ++ s2)) W ∧ (convert 22 9 (.slice A3 n3 c3)).run Tryd.prog W = .ok (.string s3) W ∧ (convert 22 9 (.slice A5 n5 c5)).run Tryd.prog W = .ok (.string s3) W) (by kernel_rfl) (⟨(Later.drew L0), C0 _ (Later.drew L0), C1 _ (Later.drew L0), V1 _ (Later.drew L0), V2 _ (Later.drew L0), V3 _ (Later.drew L0)⟩) (fun hHeld => ?_)
    refine' wpAnyH_take (i := 0) (oi := ⟨_, _, _, _, _, _⟩) rfl (by kernel_rfl) (by kernel_rfl) (by kernel_rfl) (fun _ _ _ h => h) (Or.inl ⟨by rfl, ?a0⟩) (by assumption) ?b0
    case a0 => (intro w hSw; (try dsimp only at hSw); go_simp; try with_reducible rfl)
    try simp only [Act.put, List.setIfInBounds_toArray, List.set_cons_zero, List.set_cons_succ]
    refine' wpAnyH_take (i := 1) (oi := ⟨_, _, _, _, _, _⟩) rfl (by kernel_rfl) (by kernel_rfl) (by kernel_rfl) (fun _ _ _ h => h) (Or.inl ⟨by rfl, ?a1⟩) (by assumption) ?b1
    case a1 => (intro w hSw; (try dsimp only at hSw); go_simp; try with_reducible rfl)
    try simp only [Act.put, List.setIfInBounds_toArray, List.set_cons_zero, List.set_cons_succ]
    refine' wpAnyH_take (i := 2) (oi := ⟨_, _, _, _, _, _⟩) rfl (by kernel_rfl) (by kernel_rfl) (by kernel_rfl) (fun _ _ _ h => h) (Or.inl ⟨by rfl, ?a2⟩) (by assumption) ?b2
    case a2 => (intro w hSw; (try dsimp only at hSw); go_simp; try with_reducible rfl)
    try simp only [Act.put, List.setIfInBounds_toArray, List.set_cons_zero, List.set_cons_succ]
    refine' wpAnyH_take (i := 3) (oi := ⟨_, _, _, _, _, _⟩) rfl (by kernel_rfl) (by kernel_rfl) (by kernel_rfl) (fun _ _ _ h => h) (Or.inl ⟨by rfl, ?a3⟩) (by assumption) ?b3
    case a3 => (intro w hSw; (try dsimp only at hSw); go_simp; try with_reducible rfl)
    try simp only [Act.put, List.setIfInBounds_toArray, List.set_cons_zero, List.set_cons_succ]
    refine' wpAnyH_take (i := 6) (oi := ⟨_, _, _, _, _, _⟩) rfl (by kernel_rfl) (by kernel_rfl) (by kernel_rfl) (fun _ _ _ h => h) (Or.inl ⟨by rfl, ?a4⟩) (by assumption) ?b4
    case a4 => (intro w hSw; (try dsimp only at hSw); go_simp; try with_reducible rfl)
    try simp only [Act.put, List.setIfInBounds_toArray, List.set_cons_zero, List.set_cons_succ]
    refine' wpAnyH_take (i := 7) (oi := ⟨_, _, _, _, _, _⟩) rfl (by kernel_rfl) (by kernel_rfl) (by kernel_rfl) (fun _ _ _ h => h) (Or.inl ⟨by rfl, ?a5⟩) (by assumption) ?b5
    case a5 => (intro w hSw; (try dsimp only at hSw); go_simp; try with_reducible rfl)
    try simp only [Act.put, List.setIfInBounds_toArray, List.set_cons_zero, List.set_cons_succ]
    refine' wpAnyH_take (i := 8) (oi := ⟨_, _, _, _, _, _⟩) rfl (by kernel_rfl) (by kernel_rfl) (by kernel_rfl) (fun _ _ _ h => h) (Or.inl ⟨by rfl, ?a6⟩) (by assumption) ?b6
    case a6 => (intro w hSw; (try dsimp only at hSw); go_simp; try with_reducible rfl)
    try simp only [Act.put, List.setIfInBounds_toArray, List.set_cons_zero, List.set_cons_succ]
    refine wpAnyH_ready (rs := [4]) (by kernel_rfl) (by simp) ?_
    refine AllReadyH.cons (o := ⟨_, _, _, _, _, _⟩) rfl (fun K hK => ?_) AllReadyH.nil
    go_simp
    go_at_call 12
    refine (rChPut_calls HP.out 1 A len cap bs _ (by omega) (HR.out.below (HB5.out.trans ((Later.bel (Later.drew L0)).mono HB5.out.size))) HA.out Hb.out (by omega)).mono ?_
    rintro e wA ⟨vA, rfl, hoA, hbA⟩
    obtain ⟨AA, cA, eA, _, hrA⟩ := own_rd hoA.out
    subst eA
    have LA := Later.step (Later.drew L0) hbA
    refine hK.out _ _ (⟨LA, C0 _ LA, C1 _ LA, V1 _ LA, V2 _ LA, V3 _ LA⟩) (fun hHeldN => ?_)
    clear hK K hHeld
    have hHeld := hHeldN
    clear hHeldN
    try simp only [Act.put, List.setIfInBounds_toArray, List.set_cons_zero, List.set_cons_succ]
    refine wpAnyH_ready (rs := [5, 9]) (by kernel_rfl) (by simp) ?_
    refine AllReadyH.cons (o := ⟨_, _, _, _, _, _⟩) rfl (fun K hK => ?_) (AllReadyH.cons (o := ⟨_, _, _, _, _, _⟩) rfl (fun K hK => ?_) AllReadyH.nil)
    ·have cv := conv_all (c := cA) hrA
     rw [← H1.out] at cv
     go_simp
     clear cv
     refine hK.out _ _ (⟨LA, C0 _ LA, C1 _ LA, V1 _ LA, V2 _ LA, V3 _ LA⟩) (fun hHeldN => ?_)
     clear hK K hHeld
     have hHeld := hHeldN
     clear hHeldN
     try simp only [Act.put, List.setIfInBounds_toArray, List.set_cons_zero, List.set_cons_succ]
     refine wpAnyH_ready (rs := [9]) (by kernel_rfl) (by simp) ?_
     refine AllReadyH.cons (o := ⟨_, _, _, _, _, _⟩) rfl (fun K hK => ?_) AllReadyH.nil
     go_simp
     go_at_call 12
     refine (rChPut_calls HP.out 2 B len2 cap2 ms _ (by omega) (HR2.out.below (HB5.out.trans ((Later.bel LA).mono HB5.out.size))) HB.out Hb2.out (by omega)).mono ?_
     rintro e wB ⟨vB, rfl, hoB, hbB⟩
     obtain ⟨AB, cB, eB, _, hrB⟩ := own_rd hoB.out
     subst eB
     have LB := Later.step LA hbB
     refine hK.out _ _ (⟨LB, C0 _ LB, C1 _ LB, V1 _ LB, V2 _ LB, V3 _ LB⟩) (fun hHeldN => ?_)
     clear hK K hHeld
     have hHeld := hHeldN
     clear hHeldN
     try simp only [Act.put, List.setIfInBounds_toArray, List.set_cons_zero, List.set_cons_succ]
     refine wpAnyH_ready (rs := [10]) (by kernel_rfl) (by simp) ?_
     refine AllReadyH.cons (o := ⟨_, _, _, _, _, _⟩) rfl (fun K hK => ?_) AllReadyH.nil
     have cv := conv_all (c := cB) hrB
     rw [← H2.out] at cv
     go_simp
     clear cv
     refine hK.out _ _ (⟨LB, C0 _ LB, C1 _ LB, V1 _ LB, V2 _ LB, V3 _ LB⟩) (fun hHeldN => ?_)
     clear hK K hHeld
     have hHeld := hHeldN
     clear hHeldN
     try simp only [Act.put, List.setIfInBounds_toArray, List.set_cons_zero, List.set_cons_succ]
     refine' wpAnyH_take (i := 11) (oi := ⟨_, _, _, _, _, _⟩) rfl (by kernel_rfl) (by kernel_rfl) (by kernel_rfl) (fun _ _ _ h => h) (Or.inl ⟨by rfl, ?a7⟩) (by assumption) ?b7
     case a7 => (intro w hSw; (try dsimp only at hSw); go_simp; try with_reducible rfl)
     try simp only [Act.put, List.setIfInBounds_toArray, List.set_cons_zero, List.set_cons_succ]
     refine' wpAnyH_take (i := 12) (oi := ⟨_, _, _, _, _, _⟩) rfl (by kernel_rfl) (by kernel_rfl) (by kernel_rfl) (fun _ _ _ h => h) (Or.inl ⟨by rfl, ?a8⟩) (by assumption) ?b8
     case a8 => (intro w hSw; (try dsimp only at hSw); go_simp; try with_reducible rfl)
     try simp only [Act.put, List.setIfInBounds_toArray, List.set_cons_zero, List.set_cons_succ]
     refine' wpAnyH_take (i := 13) (oi := ⟨_, _, _, _, _, _⟩) rfl (by kernel_rfl) (by kernel_rfl) (by kernel_rfl) (fun _ _ _ h => h) (Or.inl ⟨by rfl, ?a9⟩) (by assumption) ?b9
     case a9 => (intro w hSw; (try dsimp only at hSw); go_simp; try with_reducible rfl)
     try simp only [Act.put, List.setIfInBounds_toArray, List.set_cons_zero, List.set_cons_succ]
     refine' wpAnyH_take (i := 14) (oi := ⟨_, _, _, _, _, _⟩) rfl (by kernel_rfl) (by kernel_rfl) (by kernel_rfl) (fun _ _ _ h => h) (Or.inl ⟨by rfl, ?a10⟩) (by assumption) ?b10
     case a10 => (intro w hSw; (try dsimp only at hSw); go_simp; try with_reducible rfl)
     try simp only [Act.put, List.setIfInBounds_toArray, List.set_cons_zero, List.set_cons_succ]
     refine' wpAnyH_take (i := 15) (oi := ⟨_, _, _, _, _, _⟩) rfl (by kernel_rfl) (by kernel_rfl) (by kernel_rfl) (fun _ _ _ h => h) (Or.inl ⟨by rfl, ?a11⟩) (by assumption) ?b11
     case a11 => (intro w hSw; (try dsimp only at hSw); go_simp; try with_reducible rfl)
     try simp only [Act.put, List.setIfInBounds_toArray, List.set_cons_zero, List.set_cons_succ]
     refine' wpAnyH_take (i := 16) (oi := ⟨_, _, _, _, _, _⟩) rfl (by kernel_rfl) (by kernel_rfl) (by kernel_rfl) (fun _ _ _ h => h) (Or.inl ⟨by rfl, ?a12⟩) (by assumption) ?b12
     case a12 => (intro w hSw; (try dsimp only at hSw); go_simp; try with_reducible rfl)
     try simp only [Act.put, List.setIfInBounds_toArray, List.set_cons_zero, List.set_cons_succ]
     refine' wpAnyH_take (i := 17) (oi := ⟨_, _, _, _, _, _⟩) rfl (by kernel_rfl) (by kernel_rfl) (by kernel_rfl) (fun _ _ _ h => h) (Or.inl ⟨by rfl, ?a13⟩) (by assumption) ?b13
     case a13 => (intro w hSw; (try dsimp only at hSw); go_simp; try with_reducible rfl)
     try simp only [Act.put, List.setIfInBounds_toArray, List.set_cons_zero, List.set_cons_succ]
     refine' wpAnyH_take (i := 18) (oi := ⟨_, _, _, _, _, _⟩) rfl (by kernel_rfl) (by kernel_rfl) (by kernel_rfl) (fun _ _ _ h => h) (Or.inl ⟨by rfl, ?a14⟩) (by assumption) ?b14
     case a14 => (intro w hSw; (try dsimp only at hSw); go_simp; try with_reducible rfl)
     try simp only [Act.put, List.setIfInBounds_toArray, List.set_cons_zero, List.set_cons_succ]
     refine' wpAnyH_take (i := 19) (oi := ⟨_, _, _, _, _, _⟩) rfl (by kernel_rfl) (by kernel_rfl) (by kernel_rfl) (fun _ _ _ h => h) (Or.inl ⟨by rfl, ?a15⟩) (by assumption) ?b15
     case a15 => (intro w hSw; (try dsimp only at hSw); go_simp; try with_reducible rfl)
     try simp only [Act.put, List.setIfInBounds_toArray, List.set_cons_zero, List.set_cons_succ]
     refine' wpAnyH_take (i := 20) (oi := ⟨_, _, _, _, _, _⟩) rfl (by kernel_rfl) (by kernel_rfl) (by kernel_rfl) (fun _ _ _ h => h) (Or.inl ⟨by rfl, ?a16⟩) (by assumption) ?b16
     case a16 => (intro w hSw; (try dsimp only at hSw); go_simp; try with_reducible rfl)
     try simp only [Act.put, List.setIfInBounds_toArray, List.set_cons_zero, List.set_cons_succ]
     refine' wpAnyH_take (i := 21) (oi := ⟨_, _, _, _, _, _⟩) rfl (by kernel_rfl) (by kernel_rfl) (by kernel_rfl) (fun _ _ _ h => h) (Or.inl ⟨by rfl, ?a17⟩) (by assumption) ?b17
     case a17 => (intro w hSw; (try dsimp only at hSw); go_simp; try with_reducible rfl)
     try simp only [Act.put, List.setIfInBounds_toArray, List.set_cons_zero, List.set_cons_succ]
     refine' wpAnyH_take (i := 22) (oi := ⟨_, _, _, _, _, _⟩) rfl (by kernel_rfl) (by kernel_rfl) (by kernel_rfl) (fun _ _ _ h => h) (Or.inl ⟨by rfl, ?a18⟩) (by assumption) ?b18
     case a18 => (intro w hSw; (try dsimp only at hSw); go_simp; try with_reducible rfl)
     try simp only [Act.put, List.setIfInBounds_toArray, List.set_cons_zero, List.set_cons_succ]
     refine' wpAnyH_take (i := 23) (oi := ⟨_, _, _, _, _, _⟩) rfl (by kernel_rfl) (by kernel_rfl) (by kernel_rfl) (fun _ _ _ h => h) (Or.inl ⟨by rfl, ?a19⟩) (by assumption) ?b19
     case a19 => (intro w hSw; (try dsimp only at hSw); go_simp; try with_reducible rfl)
     try simp only [Act.put, List.setIfInBounds_toArray, List.set_cons_zero, List.set_cons_succ]
     refine' wpAnyH_take (i := 24) (oi := ⟨_, _, _, _, _, _⟩) rfl (by kernel_rfl) (by kernel_rfl) (by kernel_rfl) (fun _ _ _ h => h) (Or.inl ⟨by rfl, ?a20⟩) (by assumption) ?b20
     case a20 => (intro w hSw; (try dsimp only at hSw); go_simp; try with_reducible rfl)
     try simp only [Act.put, List.setIfInBounds_toArray, List.set_cons_zero, List.set_cons_succ]
     refine' wpAnyH_take (i := 25) (oi := ⟨_, _, _, _, _, _⟩) rfl (by kernel_rfl) (by kernel_rfl) (by kernel_rfl) (fun _ _ _ h => h) (Or.inl ⟨by rfl, ?a21⟩) (by assumption) ?b21
     case a21 => (intro w hSw; (try dsimp only at hSw); go_simp; try with_reducible rfl)
     try simp only [Act.put, List.setIfInBounds_toArray, List.set_cons_zero, List.set_cons_succ]
     refine' wpAnyH_take (i := 26) (oi := ⟨_, _, _, _, _, _⟩) rfl (by kernel_rfl) (by kernel_rfl) (by kernel_rfl) (fun _ _ _ h => h) (Or.inl ⟨by rfl, ?a22⟩) (by assumption) ?b22
     case a22 => (intro w hSw; (try dsimp only at hSw); go_simp; try with_reducible rfl)
     try simp only [Act.put, List.setIfInBounds_toArray, List.set_cons_zero, List.set_cons_succ]
     refine' wpAnyH_take (i := 27) (oi := ⟨_, _, _, _, _, _⟩) rfl (by kernel_rfl) (by kernel_rfl) (by kernel_rfl) (fun _ _ _ h => h) (Or.inl ⟨by rfl, ?a23⟩) (by assumption) ?b23
     case a23 => (intro w hSw; (try dsimp only at hSw); go_simp; try with_reducible rfl)
     try simp only [Act.put, List.setIfInBounds_toArray, List.set_cons_zero, List.set_cons_succ]
     refine wpAnyH_ready (rs := [28]) (by kernel_rfl) (by simp) ?_
     refine AllReadyH.cons (o := ⟨_, _, _, _, _, _⟩) rfl (fun K hK => ?_) AllReadyH.nil
     go_simp
     go_at_call 9
     refine (ChPut_calls none 0 0 [] _ ⟨rfl, fun h => by omega⟩ (fun x hx => by cases hx) (by decide) (by omega) (HT.out.below (HB5.out.trans ((Later.bel LB).mono HB5.out.size))).keys (HT.out.below (HB5.out.trans ((Later.bel LB).mono HB5.out.size))).beg (HT.out.below (HB5.out.trans ((Later.bel LB).mono HB5.out.size))).mag).mono ?_
     rintro e wC ⟨vC, rfl, hoC, hbC⟩
     obtain ⟨AC, cC, eC⟩ : ∃ AC cC, vC = .slice AC 0 cC := own_slice hoC.out
     subst eC
     have LC := Later.step LB hbC
     refine hK.out _ _ (⟨LC, C0 _ LC, C1 _ LC, V1 _ LC, V2 _ LC, V3 _ LC⟩) (fun hHeldN => ?_)
     clear hK K hHeld
     have hHeld := hHeldN
     clear hHeldN
     try simp only [Act.put, List.setIfInBounds_toArray, List.set_cons_zero, List.set_cons_succ]
     refine' wpAnyH_take (i := 29) (oi := ⟨_, _, _, _, _, _⟩) rfl (by kernel_rfl) (by kernel_rfl) (by kernel_rfl) (fun _ _ _ h => h) (Or.inl ⟨by rfl, ?a24⟩) (by assumption) ?b24
     case a24 => (intro w hSw; (try dsimp only at hSw); go_simp; try with_reducible rfl)
     try simp only [Act.put, List.setIfInBounds_toArray, List.set_cons_zero, List.set_cons_succ]
     refine' wpAnyH_take (i := 30) (oi := ⟨_, _, _, _, _, _⟩) rfl (by kernel_rfl) (by kernel_rfl) (by kernel_rfl) (fun _ _ _ h => h) (Or.inl ⟨by rfl, ?a25⟩) (by assumption) ?b25
     case a25 => (intro w hSw; (try dsimp only at hSw); go_simp; try with_reducible rfl)
     try simp only [Act.put, List.setIfInBounds_toArray, List.set_cons_zero, List.set_cons_succ]
     refine' wpAnyH_take (i := 31) (oi := ⟨_, _, _, _, _, _⟩) rfl (by kernel_rfl) (by kernel_rfl) (by kernel_rfl) (fun _ _ _ h => h) (Or.inl ⟨by rfl, ?a26⟩) (by assumption) ?b26
     case a26 => (intro w hSw; (try dsimp only at hSw); go_simp; try with_reducible rfl)
     try simp only [Act.put, List.setIfInBounds_toArray, List.set_cons_zero, List.set_cons_succ]
     refine' wpAnyH_take (i := 32) (oi := ⟨_, _, _, _, _, _⟩) rfl (by kernel_rfl) (by kernel_rfl) (by kernel_rfl) (fun _ _ _ h => h) (Or.inl ⟨by rfl, ?a27⟩) (by assumption) ?b27
     case a27 => (intro w hSw; (try dsimp only at hSw); go_simp; try with_reducible rfl)
     try simp only [Act.put, List.setIfInBounds_toArray, List.set_cons_zero, List.set_cons_succ]
     refine wpAnyH_done (by kernel_rfl) ?_ _
     refine NoPanic.normal ?_
     go_wp2
     go_ret
     exact ⟨rfl, HB5.out.trans ((Later.bel LC).mono HB5.out.size)⟩
    ·go_simp
     go_at_call 12
     refine (rChPut_calls HP.out 2 B len2 cap2 ms _ (by omega) (HR2.out.below (HB5.out.trans ((Later.bel LA).mono HB5.out.size))) HB.out Hb2.out (by omega)).mono ?_
     rintro e wB ⟨vB, rfl, hoB, hbB⟩
     obtain ⟨AB, cB, eB, _, hrB⟩ := own_rd hoB.out
     subst eB
     have LB := Later.step LA hbB
     have hrA' := hrA.below hbB
     refine hK.out _ _ (⟨LB, C0 _ LB, C1 _ LB, V1 _ LB, V2 _ LB, V3 _ LB⟩) (fun hHeldN => ?_)
     clear hK K hHeld
     have hHeld := hHeldN
     clear hHeldN
     try simp only [Act.put, List.setIfInBounds_toArray, List.set_cons_zero, List.set_cons_succ]
     refine wpAnyH_ready (rs := [5, 10]) (by kernel_rfl) (by simp) ?_
     refine AllReadyH.cons (o := ⟨_, _, _, _, _, _⟩) rfl (fun K hK => ?_) (AllReadyH.cons (o := ⟨_, _, _, _, _, _⟩) rfl (fun K hK => ?_) AllReadyH.nil)
     ·have cv := conv_all (c := cA) hrA'
      rw [← H1.out] at cv
      go_simp
      clear cv
      refine hK.out _ _ (⟨LB, C0 _ LB, C1 _ LB, V1 _ LB, V2 _ LB, V3 _ LB⟩) (fun hHeldN => ?_)
      clear hK K hHeld
      have hHeld := hHeldN
      clear hHeldN
      try simp only [Act.put, List.setIfInBounds_toArray, List.set_cons_zero, List.set_cons_succ]
      refine wpAnyH_ready (rs := [10]) (by kernel_rfl) (by simp) ?_
      refine AllReadyH.cons (o := ⟨_, _, _, _, _, _⟩) rfl (fun K hK => ?_) AllReadyH.nil
      have cv := conv_all (c := cB) hrB
      rw [← H2.out] at cv
      go_simp
      clear cv
      refine hK.out _ _ (⟨LB, C0 _ LB, C1 _ LB, V1 _ LB, V2 _ LB, V3 _ LB⟩) (fun hHeldN => ?_)
      clear hK K hHeld
      have hHeld := hHeldN
      clear hHeldN
      try simp only [Act.put, List.setIfInBounds_toArray, List.set_cons_zero, List.set_cons_succ]
      refine' wpAnyH_take (i := 11) (oi := ⟨_, _, _, _, _, _⟩) rfl (by kernel_rfl) (by kernel_rfl) (by kernel_rfl) (fun _ _ _ h => h) (Or.inl ⟨by rfl, ?a28⟩) (by assumption) ?b28
      case a28 => (intro w hSw; (try dsimp only at hSw); go_simp; try with_reducible rfl)
      try simp only [Act.put, List.setIfInBounds_toArray, List.set_cons_zero, List.set_cons_succ]
      refine' wpAnyH_take (i := 12) (oi := ⟨_, _, _, _, _, _⟩) rfl (by kernel_rfl) (by kernel_rfl) (by kernel_rfl) (fun _ _ _ h => h) (Or.inl ⟨by rfl, ?a29⟩) (by assumption) ?b29
      case a29 => (intro w hSw; (try dsimp only at hSw); go_simp; try with_reducible rfl)
      try simp only [Act.put, List.setIfInBounds_toArray, List.set_cons_zero, List.set_cons_succ]
      refine' wpAnyH_take (i := 13) (oi := ⟨_, _, _, _, _, _⟩) rfl (by kernel_rfl) (by kernel_rfl) (by kernel_rfl) (fun _ _ _ h => h) (Or.inl ⟨by rfl, ?a30⟩) (by assumption) ?b30
      case a30 => (intro w hSw; (try dsimp only at hSw); go_simp; try with_reducible rfl)
      try simp only [Act.put, List.setIfInBounds_toArray, List.set_cons_zero, List.set_cons_succ]
      refine' wpAnyH_take (i := 14) (oi := ⟨_, _, _, _, _, _⟩) rfl (by kernel_rfl) (by kernel_rfl) (by kernel_rfl) (fun _ _ _ h => h) (Or.inl ⟨by rfl, ?a31⟩) (by assumption) ?b31
      case a31 => (intro w hSw; (try dsimp only at hSw); go_simp; try with_reducible rfl)
      try simp only [Act.put, List.setIfInBounds_toArray, List.set_cons_zero, List.set_cons_succ]
      refine' wpAnyH_take (i := 15) (oi := ⟨_, _, _, _, _, _⟩) rfl (by kernel_rfl) (by kernel_rfl) (by kernel_rfl) (fun _ _ _ h => h) (Or.inl ⟨by rfl, ?a32⟩) (by assumption) ?b32
      case a32 => (intro w hSw; (try dsimp only at hSw); go_simp; try with_reducible rfl)
      try simp only [Act.put, List.setIfInBounds_toArray, List.set_cons_zero, List.set_cons_succ]
      refine' wpAnyH_take (i := 16) (oi := ⟨_, _, _, _, _, _⟩) rfl (by kernel_rfl) (by kernel_rfl) (by kernel_rfl) (fun _ _ _ h => h) (Or.inl ⟨by rfl, ?a33⟩) (by assumption) ?b33
      case a33 => (intro w hSw; (try dsimp only at hSw); go_simp; try with_reducible rfl)
      try simp only [Act.put, List.setIfInBounds_toArray, List.set_cons_zero, List.set_cons_succ]
      refine' wpAnyH_take (i := 17) (oi := ⟨_, _, _, _, _, _⟩) rfl (by kernel_rfl) (by kernel_rfl) (by kernel_rfl) (fun _ _ _ h => h) (Or.inl ⟨by rfl, ?a34⟩) (by assumption) ?b34
      case a34 => (intro w hSw; (try dsimp only at hSw); go_simp; try with_reducible rfl)
      try simp only [Act.put, List.setIfInBounds_toArray, List.set_cons_zero, List.set_cons_succ]
      refine' wpAnyH_take (i := 18) (oi := ⟨_, _, _, _, _, _⟩) rfl (by kernel_rfl) (by kernel_rfl) (by kernel_rfl) (fun _ _ _ h => h) (Or.inl ⟨by rfl, ?a35⟩) (by assumption) ?b35
      case a35 => (intro w hSw; (try dsimp only at hSw); go_simp; try with_reducible rfl)
      try simp only [Act.put, List.setIfInBounds_toArray, List.set_cons_zero, List.set_cons_succ]
      refine' wpAnyH_take (i := 19) (oi := ⟨_, _, _, _, _, _⟩) rfl (by kernel_rfl) (by kernel_rfl) (by kernel_rfl) (fun _ _ _ h => h) (Or.inl ⟨by rfl, ?a36⟩) (by assumption) ?b36
      case a36 => (intro w hSw; (try dsimp only at hSw); go_simp; try with_reducible rfl)
      try simp only [Act.put, List.setIfInBounds_toArray, List.set_cons_zero, List.set_cons_succ]
      refine' wpAnyH_take (i := 20) (oi := ⟨_, _, _, _, _, _⟩) rfl (by kernel_rfl) (by kernel_rfl) (by kernel_rfl) (fun _ _ _ h => h) (Or.inl ⟨by rfl, ?a37⟩) (by assumption) ?b37
      case a37 => (intro w hSw; (try dsimp only at hSw); go_simp; try with_reducible rfl)
      try simp only [Act.put, List.setIfInBounds_toArray, List.set_cons_zero, List.set_cons_succ]
      refine' wpAnyH_take (i := 21) (oi := ⟨_, _, _, _, _, _⟩) rfl (by kernel_rfl) (by kernel_rfl) (by kernel_rfl) (fun _ _ _ h => h) (Or.inl ⟨by rfl, ?a38⟩) (by assumption) ?b38
      case a38 => (intro w hSw; (try dsimp only at hSw); go_simp; try with_reducible rfl)
      try simp only [Act.put, List.setIfInBounds_toArray, List.set_cons_zero, List.set_cons_succ]
      refine' wpAnyH_take (i := 22) (oi := ⟨_, _, _, _, _, _⟩) rfl (by kernel_rfl) (by kernel_rfl) (by kernel_rfl) (fun _ _ _ h => h) (Or.inl ⟨by rfl, ?a39⟩) (by assumption) ?b39
      case a39 => (intro w hSw; (try dsimp only at hSw); go_simp; try with_reducible rfl)
      try simp only [Act.put, List.setIfInBounds_toArray, List.set_cons_zero, List.set_cons_succ]
      refine' wpAnyH_take (i := 23) (oi := ⟨_, _, _, _, _, _⟩) rfl (by kernel_rfl) (by kernel_rfl) (by kernel_rfl) (fun _ _ _ h => h) (Or.inl ⟨by rfl, ?a40⟩) (by assumption) ?b40
      case a40 => (intro w hSw; (try dsimp only at hSw); go_simp; try with_reducible rfl)
      try simp only [Act.put, List.setIfInBounds_toArray, List.set_cons_zero, List.set_cons_succ]
      refine' wpAnyH_take (i := 24) (oi := ⟨_, _, _, _, _, _⟩) rfl (by kernel_rfl) (by kernel_rfl) (by kernel_rfl) (fun _ _ _ h => h) (Or.inl ⟨by rfl, ?a41⟩) (by assumption) ?b41
      case a41 => (intro w hSw; (try dsimp only at hSw); go_simp; try with_reducible rfl)
      try simp only [Act.put, List.setIfInBounds_toArray, List.set_cons_zero, List.set_cons_succ]
      refine' wpAnyH_take (i := 25) (oi := ⟨_, _, _, _, _, _⟩) rfl (by kernel_rfl) (by kernel_rfl) (by kernel_rfl) (fun _ _ _ h => h) (Or.inl ⟨by rfl, ?a42⟩) (by assumption) ?b42
      case a42 => (intro w hSw; (try dsimp only at hSw); go_simp; try with_reducible rfl)
      try simp only [Act.put, List.setIfInBounds_toArray, List.set_cons_zero, List.set_cons_succ]
      refine' wpAnyH_take (i := 26) (oi := ⟨_, _, _, _, _, _⟩) rfl (by kernel_rfl) (by kernel_rfl) (by kernel_rfl) (fun _ _ _ h => h) (Or.inl ⟨by rfl, ?a43⟩) (by assumption) ?b43
      case a43 => (intro w hSw; (try dsimp only at hSw); go_simp; try with_reducible rfl)
      try simp only [Act.put, List.setIfInBounds_toArray, List.set_cons_zero, List.set_cons_succ]
      refine' wpAnyH_take (i := 27) (oi := ⟨_, _, _, _, _, _⟩) rfl (by kernel_rfl) (by kernel_rfl) (by kernel_rfl) (fun _ _ _ h => h) (Or.inl ⟨by rfl, ?a44⟩) (by assumption) ?b44
      case a44 => (intro w hSw; (try dsimp only at hSw); go_simp; try with_reducible rfl)
      try simp only [Act.put, List.setIfInBounds_toArray, List.set_cons_zero, List.set_cons_succ]
      refine wpAnyH_ready (rs := [28]) (by kernel_rfl) (by simp) ?_
      refine AllReadyH.cons (o := ⟨_, _, _, _, _, _⟩) rfl (fun K hK => ?_) AllReadyH.nil
      go_simp
      go_at_call 9
      refine (ChPut_calls none 0 0 [] _ ⟨rfl, fun h => by omega⟩ (fun x hx => by cases hx) (by decide) (by omega) (HT.out.below (HB5.out.trans ((Later.bel LB).mono HB5.out.size))).keys (HT.out.below (HB5.out.trans ((Later.bel LB).mono HB5.out.size))).beg (HT.out.below (HB5.out.trans ((Later.bel LB).mono HB5.out.size))).mag).mono ?_
      rintro e wC ⟨vC, rfl, hoC, hbC⟩
      obtain ⟨AC, cC, eC⟩ : ∃ AC cC, vC = .slice AC 0 cC := own_slice hoC.out
      subst eC
      have LC := Later.step LB hbC
      refine hK.out _ _ (⟨LC, C0 _ LC, C1 _ LC, V1 _ LC, V2 _ LC, V3 _ LC⟩) (fun hHeldN => ?_)
      clear hK K hHeld
      have hHeld := hHeldN
      clear hHeldN
      try simp only [Act.put, List.setIfInBounds_toArray, List.set_cons_zero, List.set_cons_succ]
      refine' wpAnyH_take (i := 29) (oi := ⟨_, _, _, _, _, _⟩) rfl (by kernel_rfl) (by kernel_rfl) (by kernel_rfl) (fun _ _ _ h => h) (Or.inl ⟨by rfl, ?a45⟩) (by assumption) ?b45
      case a45 => (intro w hSw; (try dsimp only at hSw); go_simp; try with_reducible rfl)
      try simp only [Act.put, List.setIfInBounds_toArray, List.set_cons_zero, List.set_cons_succ]
      refine' wpAnyH_take (i := 30) (oi := ⟨_, _, _, _, _, _⟩) rfl (by kernel_rfl) (by kernel_rfl) (by kernel_rfl) (fun _ _ _ h => h) (Or.inl ⟨by rfl, ?a46⟩) (by assumption) ?b46
      case a46 => (intro w hSw; (try dsimp only at hSw); go_simp; try with_reducible rfl)
      try simp only [Act.put, List.setIfInBounds_toArray, List.set_cons_zero, List.set_cons_succ]
      refine' wpAnyH_take (i := 31) (oi := ⟨_, _, _, _, _, _⟩) rfl (by kernel_rfl) (by kernel_rfl) (by kernel_rfl) (fun _ _ _ h => h) (Or.inl ⟨by rfl, ?a47⟩) (by assumption) ?b47
      case a47 => (intro w hSw; (try dsimp only at hSw); go_simp; try with_reducible rfl)
      try simp only [Act.put, List.setIfInBounds_toArray, List.set_cons_zero, List.set_cons_succ]
      refine' wpAnyH_take (i := 32) (oi := ⟨_, _, _, _, _, _⟩) rfl (by kernel_rfl) (by kernel_rfl) (by kernel_rfl) (fun _ _ _ h => h) (Or.inl ⟨by rfl, ?a48⟩) (by assumption) ?b48
      case a48 => (intro w hSw; (try dsimp only at hSw); go_simp; try with_reducible rfl)
      try simp only [Act.put, List.setIfInBounds_toArray, List.set_cons_zero, List.set_cons_succ]
      refine wpAnyH_done (by kernel_rfl) ?_ _
      refine NoPanic.normal ?_
      go_wp2
      go_ret
      exact ⟨rfl, HB5.out.trans ((Later.bel LC).mono HB5.out.size)⟩
     ·have cv := conv_all (c := cB) hrB
      rw [← H2.out] at cv
      go_simp
      clear cv
      refine hK.out _ _ (⟨LB, C0 _ LB, C1 _ LB, V1 _ LB, V2 _ LB, V3 _ LB⟩) (fun hHeldN => ?_)
      clear hK K hHeld
      have hHeld := hHeldN
      clear hHeldN
      try simp only [Act.put, List.setIfInBounds_toArray, List.set_cons_zero, List.set_cons_succ]
      refine wpAnyH_ready (rs := [5]) (by kernel_rfl) (by simp) ?_
      refine AllReadyH.cons (o := ⟨_, _, _, _, _, _⟩) rfl (fun K hK => ?_) AllReadyH.nil
      have cv := conv_all (c := cA) hrA'
      rw [← H1.out] at cv
      go_simp
      clear cv
      refine hK.out _ _ (⟨LB, C0 _ LB, C1 _ LB, V1 _ LB, V2 _ LB, V3 _ LB⟩) (fun hHeldN => ?_)
      clear hK K hHeld
      have hHeld := hHeldN
      clear hHeldN
      try simp only [Act.put, List.setIfInBounds_toArray, List.set_cons_zero, List.set_cons_succ]
      refine' wpAnyH_take (i := 11) (oi := ⟨_, _, _, _, _, _⟩) rfl (by kernel_rfl) (by kernel_rfl) (by kernel_rfl) (fun _ _ _ h => h) (Or.inl ⟨by rfl, ?a49⟩) (by assumption) ?b49
      case a49 => (intro w hSw; (try dsimp only at hSw); go_simp; try with_reducible rfl)
      try simp only [Act.put, List.setIfInBounds_toArray, List.set_cons_zero, List.set_cons_succ]
      refine' wpAnyH_take (i := 12) (oi := ⟨_, _, _, _, _, _⟩) rfl (by kernel_rfl) (by kernel_rfl) (by kernel_rfl) (fun _ _ _ h => h) (Or.inl ⟨by rfl, ?a50⟩) (by assumption) ?b50
      case a50 => (intro w hSw; (try dsimp only at hSw); go_simp; try with_reducible rfl)
      try simp only [Act.put, List.setIfInBounds_toArray, List.set_cons_zero, List.set_cons_succ]
      refine' wpAnyH_take (i := 13) (oi := ⟨_, _, _, _, _, _⟩) rfl (by kernel_rfl) (by kernel_rfl) (by kernel_rfl) (fun _ _ _ h => h) (Or.inl ⟨by rfl, ?a51⟩) (by assumption) ?b51
      case a51 => (intro w hSw; (try dsimp only at hSw); go_simp; try with_reducible rfl)
      try simp only [Act.put, List.setIfInBounds_toArray, List.set_cons_zero, List.set_cons_succ]
      refine' wpAnyH_take (i := 14) (oi := ⟨_, _, _, _, _, _⟩) rfl (by kernel_rfl) (by kernel_rfl) (by kernel_rfl) (fun _ _ _ h => h) (Or.inl ⟨by rfl, ?a52⟩) (by assumption) ?b52
      case a52 => (intro w hSw; (try dsimp only at hSw); go_simp; try with_reducible rfl)
      try simp only [Act.put, List.setIfInBounds_toArray, List.set_cons_zero, List.set_cons_succ]
      refine' wpAnyH_take (i := 15) (oi := ⟨_, _, _, _, _, _⟩) rfl (by kernel_rfl) (by kernel_rfl) (by kernel_rfl) (fun _ _ _ h => h) (Or.inl ⟨by rfl, ?a53⟩) (by assumption) ?b53
      case a53 => (intro w hSw; (try dsimp only at hSw); go_simp; try with_reducible rfl)
      try simp only [Act.put, List.setIfInBounds_toArray, List.set_cons_zero, List.set_cons_succ]
      refine' wpAnyH_take (i := 16) (oi := ⟨_, _, _, _, _, _⟩) rfl (by kernel_rfl) (by kernel_rfl) (by kernel_rfl) (fun _ _ _ h => h) (Or.inl ⟨by rfl, ?a54⟩) (by assumption) ?b54
      case a54 => (intro w hSw; (try dsimp only at hSw); go_simp; try with_reducible rfl)
      try simp only [Act.put, List.setIfInBounds_toArray, List.set_cons_zero, List.set_cons_succ]
      refine' wpAnyH_take (i := 17) (oi := ⟨_, _, _, _, _, _⟩) rfl (by kernel_rfl) (by kernel_rfl) (by kernel_rfl) (fun _ _ _ h => h) (Or.inl ⟨by rfl, ?a55⟩) (by assumption) ?b55
      case a55 => (intro w hSw; (try dsimp only at hSw); go_simp; try with_reducible rfl)
      try simp only [Act.put, List.setIfInBounds_toArray, List.set_cons_zero, List.set_cons_succ]
      refine' wpAnyH_take (i := 18) (oi := ⟨_, _, _, _, _, _⟩) rfl (by kernel_rfl) (by kernel_rfl) (by kernel_rfl) (fun _ _ _ h => h) (Or.inl ⟨by rfl, ?a56⟩) (by assumption) ?b56
      case a56 => (intro w hSw; (try dsimp only at hSw); go_simp; try with_reducible rfl)
      try simp only [Act.put, List.setIfInBounds_toArray, List.set_cons_zero, List.set_cons_succ]
      refine' wpAnyH_take (i := 19) (oi := ⟨_, _, _, _, _, _⟩) rfl (by kernel_rfl) (by kernel_rfl) (by kernel_rfl) (fun _ _ _ h => h) (Or.inl ⟨by rfl, ?a57⟩) (by assumption) ?b57
      case a57 => (intro w hSw; (try dsimp only at hSw); go_simp; try with_reducible rfl)
      try simp only [Act.put, List.setIfInBounds_toArray, List.set_cons_zero, List.set_cons_succ]
      refine' wpAnyH_take (i := 20) (oi := ⟨_, _, _, _, _, _⟩) rfl (by kernel_rfl) (by kernel_rfl) (by kernel_rfl) (fun _ _ _ h => h) (Or.inl ⟨by rfl, ?a58⟩) (by assumption) ?b58
      case a58 => (intro w hSw; (try dsimp only at hSw); go_simp; try with_reducible rfl)
      try simp only [Act.put, List.setIfInBounds_toArray, List.set_cons_zero, List.set_cons_succ]
      refine' wpAnyH_take (i := 21) (oi := ⟨_, _, _, _, _, _⟩) rfl (by kernel_rfl) (by kernel_rfl) (by kernel_rfl) (fun _ _ _ h => h) (Or.inl ⟨by rfl, ?a59⟩) (by assumption) ?b59
      case a59 => (intro w hSw; (try dsimp only at hSw); go_simp; try with_reducible rfl)
      try simp only [Act.put, List.setIfInBounds_toArray, List.set_cons_zero, List.set_cons_succ]
      refine' wpAnyH_take (i := 22) (oi := ⟨_, _, _, _, _, _⟩) rfl (by kernel_rfl) (by kernel_rfl) (by kernel_rfl) (fun _ _ _ h => h) (Or.inl ⟨by rfl, ?a60⟩) (by assumption) ?b60
      case a60 => (intro w hSw; (try dsimp only at hSw); go_simp; try with_reducible rfl)
      try simp only [Act.put, List.setIfInBounds_toArray, List.set_cons_zero, List.set_cons_succ]
      refine' wpAnyH_take (i := 23) (oi := ⟨_, _, _, _, _, _⟩) rfl (by kernel_rfl) (by kernel_rfl) (by kernel_rfl) (fun _ _ _ h => h) (Or.inl ⟨by rfl, ?a61⟩) (by assumption) ?b61
      case a61 => (intro w hSw; (try dsimp only at hSw); go_simp; try with_reducible rfl)
      try simp only [Act.put, List.setIfInBounds_toArray, List.set_cons_zero, List.set_cons_succ]
      refine' wpAnyH_take (i := 24) (oi := ⟨_, _, _, _, _, _⟩) rfl (by kernel_rfl) (by kernel_rfl) (by kernel_rfl) (fun _ _ _ h => h) (Or.inl ⟨by rfl, ?a62⟩) (by assumption) ?b62
      case a62 => (intro w hSw; (try dsimp only at hSw); go_simp; try with_reducible rfl)
      try simp only [Act.put, List.setIfInBounds_toArray, List.set_cons_zero, List.set_cons_succ]
      refine' wpAnyH_take (i := 25) (oi := ⟨_, _, _, _, _, _⟩) rfl (by kernel_rfl) (by kernel_rfl) (by kernel_rfl) (fun _ _ _ h => h) (Or.inl ⟨by rfl, ?a63⟩) (by assumption) ?b63
      case a63 => (intro w hSw; (try dsimp only at hSw); go_simp; try with_reducible rfl)
      try simp only [Act.put, List.setIfInBounds_toArray, List.set_cons_zero, List.set_cons_succ]
      refine' wpAnyH_take (i := 26) (oi := ⟨_, _, _, _, _, _⟩) rfl (by kernel_rfl) (by kernel_rfl) (by kernel_rfl) (fun _ _ _ h => h) (Or.inl ⟨by rfl, ?a64⟩) (by assumption) ?b64
      case a64 => (intro w hSw; (try dsimp only at hSw); go_simp; try with_reducible rfl)
      try simp only [Act.put, List.setIfInBounds_toArray, List.set_cons_zero, List.set_cons_succ]
      refine' wpAnyH_take (i := 27) (oi := ⟨_, _, _, _, _, _⟩) rfl (by kernel_rfl) (by kernel_rfl) (by kernel_rfl) (fun _ _ _ h => h) (Or.inl ⟨by rfl, ?a65⟩) (by assumption) ?b65
      case a65 => (intro w hSw; (try dsimp only at hSw); go_simp; try with_reducible rfl)
      try simp only [Act.put, List.setIfInBounds_toArray, List.set_cons_zero, List.set_cons_succ]
      refine wpAnyH_ready (rs := [28]) (by kernel_rfl) (by simp) ?_
      refine AllReadyH.cons (o := ⟨_, _, _, _, _, _⟩) rfl (fun K hK => ?_) AllReadyH.nil
      go_simp
      go_at_call 9
      refine (ChPut_calls none 0 0 [] _ ⟨rfl, fun h => by omega⟩ (fun x hx => by cases hx) (by decide) (by omega) (HT.out.below (HB5.out.trans ((Later.bel LB).mono HB5.out.size))).keys (HT.out.below (HB5.out.trans ((Later.bel LB).mono HB5.out.size))).beg (HT.out.below (HB5.out.trans ((Later.bel LB).mono HB5.out.size))).mag).mono ?_
      rintro e wC ⟨vC, rfl, hoC, hbC⟩
      obtain ⟨AC, cC, eC⟩ : ∃ AC cC, vC = .slice AC 0 cC := own_slice hoC.out
      subst eC
      have LC := Later.step LB hbC
      refine hK.out _ _ (⟨LC, C0 _ LC, C1 _ LC, V1 _ LC, V2 _ LC, V3 _ LC⟩) (fun hHeldN => ?_)
      clear hK K hHeld
      have hHeld := hHeldN
      clear hHeldN
      try simp only [Act.put, List.setIfInBounds_toArray, List.set_cons_zero, List.set_cons_succ]
      refine' wpAnyH_take (i := 29) (oi := ⟨_, _, _, _, _, _⟩) rfl (by kernel_rfl) (by kernel_rfl) (by kernel_rfl) (fun _ _ _ h => h) (Or.inl ⟨by rfl, ?a66⟩) (by assumption) ?b66
      case a66 => (intro w hSw; (try dsimp only at hSw); go_simp; try with_reducible rfl)
      try simp only [Act.put, List.setIfInBounds_toArray, List.set_cons_zero, List.set_cons_succ]
      refine' wpAnyH_take (i := 30) (oi := ⟨_, _, _, _, _, _⟩) rfl (by kernel_rfl) (by kernel_rfl) (by kernel_rfl) (fun _ _ _ h => h) (Or.inl ⟨by rfl, ?a67⟩) (by assumption) ?b67
      case a67 => (intro w hSw; (try dsimp only at hSw); go_simp; try with_reducible rfl)
      try simp only [Act.put, List.setIfInBounds_toArray, List.set_cons_zero, List.set_cons_succ]
      refine' wpAnyH_take (i := 31) (oi := ⟨_, _, _, _, _, _⟩) rfl (by kernel_rfl) (by kernel_rfl) (by kernel_rfl) (fun _ _ _ h => h) (Or.inl ⟨by rfl, ?a68⟩) (by assumption) ?b68
      case a68 => (intro w hSw; (try dsimp only at hSw); go_simp; try with_reducible rfl)
      try simp only [Act.put, List.setIfInBounds_toArray, List.set_cons_zero, List.set_cons_succ]
      refine' wpAnyH_take (i := 32) (oi := ⟨_, _, _, _, _, _⟩) rfl (by kernel_rfl) (by kernel_rfl) (by kernel_rfl) (fun _ _ _ h => h) (Or.inl ⟨by rfl, ?a69⟩) (by assumption) ?b69
      case a69 => (intro w hSw; (try dsimp only at hSw); go_simp; try with_reducible rfl)
      try simp only [Act.put, List.setIfInBounds_toArray, List.set_cons_zero, List.set_cons_succ]
      refine wpAnyH_done (by kernel_rfl) ?_ _
      refine NoPanic.normal ?_
      go_wp2
      go_ret
      exact ⟨rfl, HB5.out.trans ((Later.bel LC).mono HB5.out.size)⟩
   ·go_wp2_with fail
    have hb2' : Below w1.heap.size w1 (w1.alloc (.cells #[.int .i64 2, .slice A len cap, .int .i64 1, .slice B len2 cap2] 26)) := (Below.refl _ _).alloc (Nat.le_refl _) _
    have HB1' := Lib.hid (below_seq HB1.out (Nat.le_refl _) hb2')
    have hput : putsB [(2, bs), (1, ms)] 2 = chunkB 2 bs ++ chunkB 1 ms := by simp [putsB, putK]
    have hl1 := chunkB_length 2 bs
    have hl2 := chunkB_length 1 ms
    have hlb1 := lebU_10 (n := bs.length) (by rw [Hl.out]; omega)
    have hlb2 := lebU_10 (n := ms.length) (by rw [Hl2.out]; omega)
    rw [Hl.out] at hl1 hlb1
    rw [Hl2.out] at hl2 hlb2
    refine (ChPut_calls (some ⟨w1.heap.size, 0, none⟩) 2 2 [(2, bs), (1, ms)] _ (two_chunks (HR.out.below HB1.out) HA.out hcap (HR2.out.below HB1.out) HB.out hcap2) (fun x hx => by
     simp only [List.mem_cons, List.not_mem_nil, or_false] at hx
     rcases hx with rfl | rfl
     ·exact ⟨by omega, by show bs.length ≤ _; rw [Hl.out]; omega, Hb.out⟩
     ·exact ⟨by omega, by show ms.length ≤ _; rw [Hl2.out]; omega, Hb2.out⟩) (by show (putsB [(2, bs), (1, ms)] 2).length ≤ _; rw [hput, List.length_append, hl1, hl2]; omega) (by omega) (HT.out.below HB1'.out).keys (HT.out.below HB1'.out).beg (HT.out.below HB1'.out).mag).mono ?_
    rintro e w2 ⟨v2, rfl, HO2, hb2⟩
    rw [show ([(2, bs), (1, ms)] : List (Int × List Int)).length = 2 from rfl, hput] at HO2
    obtain ⟨m2, hm2⟩ : ∃ m, m = (chunkB 2 bs ++ chunkB 1 ms).length := ⟨_, rfl⟩
    rw [← hm2] at HO2
    obtain ⟨A2, c2, e2, _, hr2⟩ := own_rd HO2.out
    subst e2
    have Hr2 := Lib.hid hr2
    have HB2 := Lib.hid (below_seq HB1'.out (Nat.le_refl _) hb2)
    clear hb2' hput hl1 hl2 hlb1 hlb2 hm2 hr2 hb2 HO2
    go_wp2_with fail
    refine (ChPack_calls A len cap bs _ (HR.out.below HB2.out) Hb.out HA.out hcap (by omega) (HT.out.below HB2.out).tabs (HT.out.below HB2.out).ord).mono ?_
    rintro e w3 ⟨A3, n3, c3, rfl, HO3, hb3⟩
    obtain ⟨K3, hK3⟩ : ∃ K, K = (packK bs).1 := ⟨_, rfl⟩
    obtain ⟨C3, hC3⟩ : ∃ C, C = (packK bs).2 := ⟨_, rfl⟩
    rw [← hC3] at HO3
    rw [← hK3]
    have HK3 := Lib.hid hK3
    have HC3 := Lib.hid hC3
    clear hK3 hC3
    obtain ⟨_, _, e3, _, hr3⟩ := own_rd HO3.out
    cases e3
    go_upto_region 8 with fail
    obtain ⟨g9, hg9⟩ : ∃ g, g = w3.heap.size := ⟨_, rfl⟩
    obtain ⟨w4, hw4⟩ : ∃ X, X = w3.alloc (.cells #[.int .i64 K3, .slice A3 n3 c3] 26) := ⟨_, rfl⟩
    rw [← hw4, ← hg9]
    have hb4 : Below w3.heap.size w3 w4 := by rw [hw4]; exact (Below.refl _ _).alloc (Nat.le_refl _) _
    have hrow4 : w4.heap[g9]? = some (.cells #[.int .i64 K3, .slice A3 n3 c3] 26 (0, 0)) := by rw [hw4, hg9]; exact heap_alloc_new w3 _
    have HX3 := Lib.hid hb3
    have HX4 := Lib.hid (below_seq hb3 (Nat.le_refl _) hb4)
    have HB4 := Lib.hid (below_seq HB2.out (Nat.le_refl _) HX4.out)
    have HK0 := Lib.hid (two_c0 hrow4)
    have HK1 := Lib.hid (two_c1 hrow4)
    have Hr3 := Lib.hid (hr3.below hb4)
    clear hw4 hg9 hb4 hrow4 hb3 hr3 HO3
    go_wp2_with fail
    refine (rPack_calls A len cap bs _ (HR.out.below HB4.out) Hb.out HA.out hcap (by omega)).mono ?_
    rintro e w5 ⟨A5, n5, c5, rfl, Hr5, Hn5, _, hb5⟩
    rw [← HK3.out]
    rw [← HC3.out] at Hr5
    have HB5 := Lib.hid (below_seq HB4.out (Nat.le_refl _) hb5)
    have L0 := Later.refl w5
    have C0 := Later.cell (kept_cell hb5 HK0.out)
    have C1 := Later.cell (kept_cell hb5 HK1.out)
    obtain ⟨s1, hs1⟩ : ∃ s, s = strOfNums (chunkB 2 bs) := ⟨_, rfl⟩
    obtain ⟨s2, hs2⟩ : ∃ s, s = strOfNums (chunkB 1 ms) := ⟨_, rfl⟩
    obtain ⟨s3, hs3⟩ : ∃ s, s = strOfNums C3 := ⟨_, rfl⟩
    have V1 := conv_allL (c := c2) (Hr2.out.below (below_seq HX4.out (Nat.le_refl _) hb5))
    have V2 := conv_allL (c := c3) (Hr3.out.below hb5)
    have V3 := conv_allL (c := c5) Hr5.out
    rw [strOfNums_app, ← hs1, ← hs2] at V1
    rw [← hs3] at V2 V3
    have hsum : ¬ 9223372036854775807 < s1.size + s2.size := by
     have hlb1 := lebU_10 (n := bs.length) (by rw [Hl.out]; omega)
     have hlb2 := lebU_10 (n := ms.length) (by rw [Hl2.out]; omega)
     rw [hs1, hs2, strOfNums_size, strOfNums_size, chunkB_length, chunkB_length, Hl.out, Hl2.out]
     rw [Hl.out] at hlb1
     rw [Hl2.out] at hlb2
     omega
    have q1 : ((s1 ++ s2).toList == (s1 ++ s2).toList) = true := by rw [tl_beq]; exact decide_eq_true rfl
    have q3 : (s3.toList == s3.toList) = true := by rw [tl_beq]; exact decide_eq_true rfl
    have H1 := Lib.hid hs1
    have H2 := Lib.hid hs2
    clear hb5 hs1 hs2 hs3
    go_upto_region 9 with fail
    refine wp_region_noPanic ?_
    refine wp_region_held_drew (S := fun W => Later w5 W ∧ W.cell? ⟨g9, 0, none⟩ = some (.int .i64 K3) ∧ W.cell? ⟨g9, 1, none⟩ = some (.slice A3 n3 c3) ∧ (convert 22 9 (.slice A2 m2 c2)).run Tryd.prog W = .ok (.string (s1 ++ s2)) W ∧ (convert 22 9 (.slice A3 n3 c3)).run Tryd.prog W = .ok (.string s3) W ∧ (convert 22 9 (.slice A5 n5 c5)).run Tryd.prog W = .ok (.string s3) W) (by kernel_rfl) (⟨(Later.drew L0), C0 _ (Later.drew L0), C1 _ (Later.drew L0), V1 _ (Later.drew L0), V2 _ (Later.drew L0), V3 _ (Later.drew L0)⟩) (fun hHeld => ?_)
    refine' wpAnyH_take (i := 0) (oi := ⟨_, _, _, _, _, _⟩) rfl (by kernel_rfl) (by kernel_rfl) (by kernel_rfl) (fun _ _ _ h => h) (Or.inl ⟨by rfl, ?a70⟩) (by assumption) ?b70
    case a70 => (intro w hSw; (try dsimp only at hSw); go_simp; try with_reducible rfl)
    try simp only [Act.put, List.setIfInBounds_toArray, List.set_cons_zero, List.set_cons_succ]
    refine' wpAnyH_take (i := 1) (oi := ⟨_, _, _, _, _, _⟩) rfl (by kernel_rfl) (by kernel_rfl) (by kernel_rfl) (fun _ _ _ h => h) (Or.inl ⟨by rfl, ?a71⟩) (by assumption) ?b71
    case a71 => (intro w hSw; (try dsimp only at hSw); go_simp; try with_reducible rfl)
    try simp only [Act.put, List.setIfInBounds_toArray, List.set_cons_zero, List.set_cons_succ]
    refine' wpAnyH_take (i := 2) (oi := ⟨_, _, _, _, _, _⟩) rfl (by kernel_rfl) (by kernel_rfl) (by kernel_rfl) (fun _ _ _ h => h) (Or.inl ⟨by rfl, ?a72⟩) (by assumption) ?b72
    case a72 => (intro w hSw; (try dsimp only at hSw); go_simp; try with_reducible rfl)
    try simp only [Act.put, List.setIfInBounds_toArray, List.set_cons_zero, List.set_cons_succ]
    refine' wpAnyH_take (i := 3) (oi := ⟨_, _, _, _, _, _⟩) rfl (by kernel_rfl) (by kernel_rfl) (by kernel_rfl) (fun _ _ _ h => h) (Or.inl ⟨by rfl, ?a73⟩) (by assumption) ?b73
    case a73 => (intro w hSw; (try dsimp only at hSw); go_simp; try with_reducible rfl)
    try simp only [Act.put, List.setIfInBounds_toArray, List.set_cons_zero, List.set_cons_succ]
    refine' wpAnyH_take (i := 6) (oi := ⟨_, _, _, _, _, _⟩) rfl (by kernel_rfl) (by kernel_rfl) (by kernel_rfl) (fun _ _ _ h => h) (Or.inl ⟨by rfl, ?a74⟩) (by assumption) ?b74
    case a74 => (intro w hSw; (try dsimp only at hSw); go_simp; try with_reducible rfl)
    try simp only [Act.put, List.setIfInBounds_toArray, List.set_cons_zero, List.set_cons_succ]
    refine' wpAnyH_take (i := 7) (oi := ⟨_, _, _, _, _, _⟩) rfl (by kernel_rfl) (by kernel_rfl) (by kernel_rfl) (fun _ _ _ h => h) (Or.inl ⟨by rfl, ?a75⟩) (by assumption) ?b75
    case a75 => (intro w hSw; (try dsimp only at hSw); go_simp; try with_reducible rfl)
    try simp only [Act.put, List.setIfInBounds_toArray, List.set_cons_zero, List.set_cons_succ]
    refine' wpAnyH_take (i := 8) (oi := ⟨_, _, _, _, _, _⟩) rfl (by kernel_rfl) (by kernel_rfl) (by kernel_rfl) (fun _ _ _ h => h) (Or.inl ⟨by rfl, ?a76⟩) (by assumption) ?b76
    case a76 => (intro w hSw; (try dsimp only at hSw); go_simp; try with_reducible rfl)
    try simp only [Act.put, List.setIfInBounds_toArray, List.set_cons_zero, List.set_cons_succ]
    refine wpAnyH_ready (rs := [4]) (by kernel_rfl) (by simp) ?_
    refine AllReadyH.cons (o := ⟨_, _, _, _, _, _⟩) rfl (fun K hK => ?_) AllReadyH.nil
    go_simp
    go_at_call 12
    refine (rChPut_calls HP.out 2 A len cap bs _ (by omega) (HR.out.below (HB5.out.trans ((Later.bel (Later.drew L0)).mono HB5.out.size))) HA.out Hb.out (by omega)).mono ?_
    rintro e wA ⟨vA, rfl, hoA, hbA⟩
    obtain ⟨AA, cA, eA, _, hrA⟩ := own_rd hoA.out
    subst eA
    have LA := Later.step (Later.drew L0) hbA
    refine hK.out _ _ (⟨LA, C0 _ LA, C1 _ LA, V1 _ LA, V2 _ LA, V3 _ LA⟩) (fun hHeldN => ?_)
    clear hK K hHeld
    have hHeld := hHeldN
    clear hHeldN
    try simp only [Act.put, List.setIfInBounds_toArray, List.set_cons_zero, List.set_cons_succ]
    refine wpAnyH_ready (rs := [5, 9]) (by kernel_rfl) (by simp) ?_
    refine AllReadyH.cons (o := ⟨_, _, _, _, _, _⟩) rfl (fun K hK => ?_) (AllReadyH.cons (o := ⟨_, _, _, _, _, _⟩) rfl (fun K hK => ?_) AllReadyH.nil)
    ·have cv := conv_all (c := cA) hrA
     rw [← H1.out] at cv
     go_simp
     clear cv
     refine hK.out _ _ (⟨LA, C0 _ LA, C1 _ LA, V1 _ LA, V2 _ LA, V3 _ LA⟩) (fun hHeldN => ?_)
     clear hK K hHeld
     have hHeld := hHeldN
     clear hHeldN
     try simp only [Act.put, List.setIfInBounds_toArray, List.set_cons_zero, List.set_cons_succ]
     refine wpAnyH_ready (rs := [9]) (by kernel_rfl) (by simp) ?_
     refine AllReadyH.cons (o := ⟨_, _, _, _, _, _⟩) rfl (fun K hK => ?_) AllReadyH.nil
     go_simp
     go_at_call 12
     refine (rChPut_calls HP.out 1 B len2 cap2 ms _ (by omega) (HR2.out.below (HB5.out.trans ((Later.bel LA).mono HB5.out.size))) HB.out Hb2.out (by omega)).mono ?_
     rintro e wB ⟨vB, rfl, hoB, hbB⟩
     obtain ⟨AB, cB, eB, _, hrB⟩ := own_rd hoB.out
     subst eB
     have LB := Later.step LA hbB
     refine hK.out _ _ (⟨LB, C0 _ LB, C1 _ LB, V1 _ LB, V2 _ LB, V3 _ LB⟩) (fun hHeldN => ?_)
     clear hK K hHeld
     have hHeld := hHeldN
     clear hHeldN
     try simp only [Act.put, List.setIfInBounds_toArray, List.set_cons_zero, List.set_cons_succ]
     refine wpAnyH_ready (rs := [10]) (by kernel_rfl) (by simp) ?_
     refine AllReadyH.cons (o := ⟨_, _, _, _, _, _⟩) rfl (fun K hK => ?_) AllReadyH.nil
     have cv := conv_all (c := cB) hrB
     rw [← H2.out] at cv
     go_simp
     clear cv
     refine hK.out _ _ (⟨LB, C0 _ LB, C1 _ LB, V1 _ LB, V2 _ LB, V3 _ LB⟩) (fun hHeldN => ?_)
     clear hK K hHeld
     have hHeld := hHeldN
     clear hHeldN
     try simp only [Act.put, List.setIfInBounds_toArray, List.set_cons_zero, List.set_cons_succ]
     refine' wpAnyH_take (i := 11) (oi := ⟨_, _, _, _, _, _⟩) rfl (by kernel_rfl) (by kernel_rfl) (by kernel_rfl) (fun _ _ _ h => h) (Or.inl ⟨by rfl, ?a77⟩) (by assumption) ?b77
     case a77 => (intro w hSw; (try dsimp only at hSw); go_simp; try with_reducible rfl)
     try simp only [Act.put, List.setIfInBounds_toArray, List.set_cons_zero, List.set_cons_succ]
     refine' wpAnyH_take (i := 12) (oi := ⟨_, _, _, _, _, _⟩) rfl (by kernel_rfl) (by kernel_rfl) (by kernel_rfl) (fun _ _ _ h => h) (Or.inl ⟨by rfl, ?a78⟩) (by assumption) ?b78
     case a78 => (intro w hSw; (try dsimp only at hSw); go_simp; try with_reducible rfl)
     try simp only [Act.put, List.setIfInBounds_toArray, List.set_cons_zero, List.set_cons_succ]
     refine' wpAnyH_take (i := 13) (oi := ⟨_, _, _, _, _, _⟩) rfl (by kernel_rfl) (by kernel_rfl) (by kernel_rfl) (fun _ _ _ h => h) (Or.inl ⟨by rfl, ?a79⟩) (by assumption) ?b79
     case a79 => (intro w hSw; (try dsimp only at hSw); go_simp; try with_reducible rfl)
     try simp only [Act.put, List.setIfInBounds_toArray, List.set_cons_zero, List.set_cons_succ]
     refine' wpAnyH_take (i := 14) (oi := ⟨_, _, _, _, _, _⟩) rfl (by kernel_rfl) (by kernel_rfl) (by kernel_rfl) (fun _ _ _ h => h) (Or.inl ⟨by rfl, ?a80⟩) (by assumption) ?b80
     case a80 => (intro w hSw; (try dsimp only at hSw); go_simp; try with_reducible rfl)
     try simp only [Act.put, List.setIfInBounds_toArray, List.set_cons_zero, List.set_cons_succ]
     refine' wpAnyH_take (i := 15) (oi := ⟨_, _, _, _, _, _⟩) rfl (by kernel_rfl) (by kernel_rfl) (by kernel_rfl) (fun _ _ _ h => h) (Or.inl ⟨by rfl, ?a81⟩) (by assumption) ?b81
     case a81 => (intro w hSw; (try dsimp only at hSw); go_simp; try with_reducible rfl)
     try simp only [Act.put, List.setIfInBounds_toArray, List.set_cons_zero, List.set_cons_succ]
     refine' wpAnyH_take (i := 16) (oi := ⟨_, _, _, _, _, _⟩) rfl (by kernel_rfl) (by kernel_rfl) (by kernel_rfl) (fun _ _ _ h => h) (Or.inl ⟨by rfl, ?a82⟩) (by assumption) ?b82
     case a82 => (intro w hSw; (try dsimp only at hSw); go_simp; try with_reducible rfl)
     try simp only [Act.put, List.setIfInBounds_toArray, List.set_cons_zero, List.set_cons_succ]
     refine' wpAnyH_take (i := 17) (oi := ⟨_, _, _, _, _, _⟩) rfl (by kernel_rfl) (by kernel_rfl) (by kernel_rfl) (fun _ _ _ h => h) (Or.inl ⟨by rfl, ?a83⟩) (by assumption) ?b83
     case a83 => (intro w hSw; (try dsimp only at hSw); go_simp; try with_reducible rfl)
     try simp only [Act.put, List.setIfInBounds_toArray, List.set_cons_zero, List.set_cons_succ]
     refine' wpAnyH_take (i := 18) (oi := ⟨_, _, _, _, _, _⟩) rfl (by kernel_rfl) (by kernel_rfl) (by kernel_rfl) (fun _ _ _ h => h) (Or.inl ⟨by rfl, ?a84⟩) (by assumption) ?b84
     case a84 => (intro w hSw; (try dsimp only at hSw); go_simp; try with_reducible rfl)
     try simp only [Act.put, List.setIfInBounds_toArray, List.set_cons_zero, List.set_cons_succ]
     refine' wpAnyH_take (i := 19) (oi := ⟨_, _, _, _, _, _⟩) rfl (by kernel_rfl) (by kernel_rfl) (by kernel_rfl) (fun _ _ _ h => h) (Or.inl ⟨by rfl, ?a85⟩) (by assumption) ?b85
     case a85 => (intro w hSw; (try dsimp only at hSw); go_simp; try with_reducible rfl)
     try simp only [Act.put, List.setIfInBounds_toArray, List.set_cons_zero, List.set_cons_succ]
     refine' wpAnyH_take (i := 20) (oi := ⟨_, _, _, _, _, _⟩) rfl (by kernel_rfl) (by kernel_rfl) (by kernel_rfl) (fun _ _ _ h => h) (Or.inl ⟨by rfl, ?a86⟩) (by assumption) ?b86
     case a86 => (intro w hSw; (try dsimp only at hSw); go_simp; try with_reducible rfl)
     try simp only [Act.put, List.setIfInBounds_toArray, List.set_cons_zero, List.set_cons_succ]
     refine' wpAnyH_take (i := 21) (oi := ⟨_, _, _, _, _, _⟩) rfl (by kernel_rfl) (by kernel_rfl) (by kernel_rfl) (fun _ _ _ h => h) (Or.inl ⟨by rfl, ?a87⟩) (by assumption) ?b87
     case a87 => (intro w hSw; (try dsimp only at hSw); go_simp; try with_reducible rfl)
     try simp only [Act.put, List.setIfInBounds_toArray, List.set_cons_zero, List.set_cons_succ]
     refine' wpAnyH_take (i := 22) (oi := ⟨_, _, _, _, _, _⟩) rfl (by kernel_rfl) (by kernel_rfl) (by kernel_rfl) (fun _ _ _ h => h) (Or.inl ⟨by rfl, ?a88⟩) (by assumption) ?b88
     case a88 => (intro w hSw; (try dsimp only at hSw); go_simp; try with_reducible rfl)
     try simp only [Act.put, List.setIfInBounds_toArray, List.set_cons_zero, List.set_cons_succ]
     refine' wpAnyH_take (i := 23) (oi := ⟨_, _, _, _, _, _⟩) rfl (by kernel_rfl) (by kernel_rfl) (by kernel_rfl) (fun _ _ _ h => h) (Or.inl ⟨by rfl, ?a89⟩) (by assumption) ?b89
     case a89 => (intro w hSw; (try dsimp only at hSw); go_simp; try with_reducible rfl)
     try simp only [Act.put, List.setIfInBounds_toArray, List.set_cons_zero, List.set_cons_succ]
     refine' wpAnyH_take (i := 24) (oi := ⟨_, _, _, _, _, _⟩) rfl (by kernel_rfl) (by kernel_rfl) (by kernel_rfl) (fun _ _ _ h => h) (Or.inl ⟨by rfl, ?a90⟩) (by assumption) ?b90
     case a90 => (intro w hSw; (try dsimp only at hSw); go_simp; try with_reducible rfl)
     try simp only [Act.put, List.setIfInBounds_toArray, List.set_cons_zero, List.set_cons_succ]
     refine' wpAnyH_take (i := 25) (oi := ⟨_, _, _, _, _, _⟩) rfl (by kernel_rfl) (by kernel_rfl) (by kernel_rfl) (fun _ _ _ h => h) (Or.inl ⟨by rfl, ?a91⟩) (by assumption) ?b91
     case a91 => (intro w hSw; (try dsimp only at hSw); go_simp; try with_reducible rfl)
     try simp only [Act.put, List.setIfInBounds_toArray, List.set_cons_zero, List.set_cons_succ]
     refine' wpAnyH_take (i := 26) (oi := ⟨_, _, _, _, _, _⟩) rfl (by kernel_rfl) (by kernel_rfl) (by kernel_rfl) (fun _ _ _ h => h) (Or.inl ⟨by rfl, ?a92⟩) (by assumption) ?b92
     case a92 => (intro w hSw; (try dsimp only at hSw); go_simp; try with_reducible rfl)
     try simp only [Act.put, List.setIfInBounds_toArray, List.set_cons_zero, List.set_cons_succ]
     refine' wpAnyH_take (i := 27) (oi := ⟨_, _, _, _, _, _⟩) rfl (by kernel_rfl) (by kernel_rfl) (by kernel_rfl) (fun _ _ _ h => h) (Or.inl ⟨by rfl, ?a93⟩) (by assumption) ?b93
     case a93 => (intro w hSw; (try dsimp only at hSw); go_simp; try with_reducible rfl)
     try simp only [Act.put, List.setIfInBounds_toArray, List.set_cons_zero, List.set_cons_succ]
     refine wpAnyH_ready (rs := [28]) (by kernel_rfl) (by simp) ?_
     refine AllReadyH.cons (o := ⟨_, _, _, _, _, _⟩) rfl (fun K hK => ?_) AllReadyH.nil
     go_simp
     go_at_call 9
     refine (ChPut_calls none 0 0 [] _ ⟨rfl, fun h => by omega⟩ (fun x hx => by cases hx) (by decide) (by omega) (HT.out.below (HB5.out.trans ((Later.bel LB).mono HB5.out.size))).keys (HT.out.below (HB5.out.trans ((Later.bel LB).mono HB5.out.size))).beg (HT.out.below (HB5.out.trans ((Later.bel LB).mono HB5.out.size))).mag).mono ?_
     rintro e wC ⟨vC, rfl, hoC, hbC⟩
     obtain ⟨AC, cC, eC⟩ : ∃ AC cC, vC = .slice AC 0 cC := own_slice hoC.out
     subst eC
     have LC := Later.step LB hbC
     refine hK.out _ _ (⟨LC, C0 _ LC, C1 _ LC, V1 _ LC, V2 _ LC, V3 _ LC⟩) (fun hHeldN => ?_)
     clear hK K hHeld
     have hHeld := hHeldN
     clear hHeldN
     try simp only [Act.put, List.setIfInBounds_toArray, List.set_cons_zero, List.set_cons_succ]
     refine' wpAnyH_take (i := 29) (oi := ⟨_, _, _, _, _, _⟩) rfl (by kernel_rfl) (by kernel_rfl) (by kernel_rfl) (fun _ _ _ h => h) (Or.inl ⟨by rfl, ?a94⟩) (by assumption) ?b94
     case a94 => (intro w hSw; (try dsimp only at hSw); go_simp; try with_reducible rfl)
     try simp only [Act.put, List.setIfInBounds_toArray, List.set_cons_zero, List.set_cons_succ]
     refine' wpAnyH_take (i := 30) (oi := ⟨_, _, _, _, _, _⟩) rfl (by kernel_rfl) (by kernel_rfl) (by kernel_rfl) (fun _ _ _ h => h) (Or.inl ⟨by rfl, ?a95⟩) (by assumption) ?b95
     case a95 => (intro w hSw; (try dsimp only at hSw); go_simp; try with_reducible rfl)
     try simp only [Act.put, List.setIfInBounds_toArray, List.set_cons_zero, List.set_cons_succ]
     refine' wpAnyH_take (i := 31) (oi := ⟨_, _, _, _, _, _⟩) rfl (by kernel_rfl) (by kernel_rfl) (by kernel_rfl) (fun _ _ _ h => h) (Or.inl ⟨by rfl, ?a96⟩) (by assumption) ?b96
     case a96 => (intro w hSw; (try dsimp only at hSw); go_simp; try with_reducible rfl)
     try simp only [Act.put, List.setIfInBounds_toArray, List.set_cons_zero, List.set_cons_succ]
     refine' wpAnyH_take (i := 32) (oi := ⟨_, _, _, _, _, _⟩) rfl (by kernel_rfl) (by kernel_rfl) (by kernel_rfl) (fun _ _ _ h => h) (Or.inl ⟨by rfl, ?a97⟩) (by assumption) ?b97
     case a97 => (intro w hSw; (try dsimp only at hSw); go_simp; try with_reducible rfl)
     try simp only [Act.put, List.setIfInBounds_toArray, List.set_cons_zero, List.set_cons_succ]
     refine wpAnyH_done (by kernel_rfl) ?_ _
     refine NoPanic.normal ?_
     go_wp2
     go_ret
     exact ⟨rfl, HB5.out.trans ((Later.bel LC).mono HB5.out.size)⟩
    ·go_simp
     go_at_call 12
     refine (rChPut_calls HP.out 1 B len2 cap2 ms _ (by omega) (HR2.out.below (HB5.out.trans ((Later.bel LA).mono HB5.out.size))) HB.out Hb2.out (by omega)).mono ?_
     rintro e wB ⟨vB, rfl, hoB, hbB⟩
     obtain ⟨AB, cB, eB, _, hrB⟩ := own_rd hoB.out
     subst eB
     have LB := Later.step LA hbB
     have hrA' := hrA.below hbB
     refine hK.out _ _ (⟨LB, C0 _ LB, C1 _ LB, V1 _ LB, V2 _ LB, V3 _ LB⟩) (fun hHeldN => ?_)
     clear hK K hHeld
     have hHeld := hHeldN
     clear hHeldN
     try simp only [Act.put, List.setIfInBounds_toArray, List.set_cons_zero, List.set_cons_succ]
     refine wpAnyH_ready (rs := [5, 10]) (by kernel_rfl) (by simp) ?_
     refine AllReadyH.cons (o := ⟨_, _, _, _, _, _⟩) rfl (fun K hK => ?_) (AllReadyH.cons (o := ⟨_, _, _, _, _, _⟩) rfl (fun K hK => ?_) AllReadyH.nil)
     ·have cv := conv_all (c := cA) hrA'
      rw [← H1.out] at cv
      go_simp
      clear cv
      refine hK.out _ _ (⟨LB, C0 _ LB, C1 _ LB, V1 _ LB, V2 _ LB, V3 _ LB⟩) (fun hHeldN => ?_)
      clear hK K hHeld
      have hHeld := hHeldN
      clear hHeldN
      try simp only [Act.put, List.setIfInBounds_toArray, List.set_cons_zero, List.set_cons_succ]
      refine wpAnyH_ready (rs := [10]) (by kernel_rfl) (by simp) ?_
      refine AllReadyH.cons (o := ⟨_, _, _, _, _, _⟩) rfl (fun K hK => ?_) AllReadyH.nil
      have cv := conv_all (c := cB) hrB
      rw [← H2.out] at cv
      go_simp
      clear cv
      refine hK.out _ _ (⟨LB, C0 _ LB, C1 _ LB, V1 _ LB, V2 _ LB, V3 _ LB⟩) (fun hHeldN => ?_)
      clear hK K hHeld
      have hHeld := hHeldN
      clear hHeldN
      try simp only [Act.put, List.setIfInBounds_toArray, List.set_cons_zero, List.set_cons_succ]
      refine' wpAnyH_take (i := 11) (oi := ⟨_, _, _, _, _, _⟩) rfl (by kernel_rfl) (by kernel_rfl) (by kernel_rfl) (fun _ _ _ h => h) (Or.inl ⟨by rfl, ?a98⟩) (by assumption) ?b98
      case a98 => (intro w hSw; (try dsimp only at hSw); go_simp; try with_reducible rfl)
      try simp only [Act.put, List.setIfInBounds_toArray, List.set_cons_zero, List.set_cons_succ]
      refine' wpAnyH_take (i := 12) (oi := ⟨_, _, _, _, _, _⟩) rfl (by kernel_rfl) (by kernel_rfl) (by kernel_rfl) (fun _ _ _ h => h) (Or.inl ⟨by rfl, ?a99⟩) (by assumption) ?b99
      case a99 => (intro w hSw; (try dsimp only at hSw); go_simp; try with_reducible rfl)
      try simp only [Act.put, List.setIfInBounds_toArray, List.set_cons_zero, List.set_cons_succ]
      refine' wpAnyH_take (i := 13) (oi := ⟨_, _, _, _, _, _⟩) rfl (by kernel_rfl) (by kernel_rfl) (by kernel_rfl) (fun _ _ _ h => h) (Or.inl ⟨by rfl, ?a100⟩) (by assumption) ?b100
      case a100 => (intro w hSw; (try dsimp only at hSw); go_simp; try with_reducible rfl)
      try simp only [Act.put, List.setIfInBounds_toArray, List.set_cons_zero, List.set_cons_succ]
      refine' wpAnyH_take (i := 14) (oi := ⟨_, _, _, _, _, _⟩) rfl (by kernel_rfl) (by kernel_rfl) (by kernel_rfl) (fun _ _ _ h => h) (Or.inl ⟨by rfl, ?a101⟩) (by assumption) ?b101
      case a101 => (intro w hSw; (try dsimp only at hSw); go_simp; try with_reducible rfl)
      try simp only [Act.put, List.setIfInBounds_toArray, List.set_cons_zero, List.set_cons_succ]
      refine' wpAnyH_take (i := 15) (oi := ⟨_, _, _, _, _, _⟩) rfl (by kernel_rfl) (by kernel_rfl) (by kernel_rfl) (fun _ _ _ h => h) (Or.inl ⟨by rfl, ?a102⟩) (by assumption) ?b102
      case a102 => (intro w hSw; (try dsimp only at hSw); go_simp; try with_reducible rfl)
      try simp only [Act.put, List.setIfInBounds_toArray, List.set_cons_zero, List.set_cons_succ]
      refine' wpAnyH_take (i := 16) (oi := ⟨_, _, _, _, _, _⟩) rfl (by kernel_rfl) (by kernel_rfl) (by kernel_rfl) (fun _ _ _ h => h) (Or.inl ⟨by rfl, ?a103⟩) (by assumption) ?b103
      case a103 => (intro w hSw; (try dsimp only at hSw); go_simp; try with_reducible rfl)
      try simp only [Act.put, List.setIfInBounds_toArray, List.set_cons_zero, List.set_cons_succ]
      refine' wpAnyH_take (i := 17) (oi := ⟨_, _, _, _, _, _⟩) rfl (by kernel_rfl) (by kernel_rfl) (by kernel_rfl) (fun _ _ _ h => h) (Or.inl ⟨by rfl, ?a104⟩) (by assumption) ?b104
      case a104 => (intro w hSw; (try dsimp only at hSw); go_simp; try with_reducible rfl)
      try simp only [Act.put, List.setIfInBounds_toArray, List.set_cons_zero, List.set_cons_succ]
      refine' wpAnyH_take (i := 18) (oi := ⟨_, _, _, _, _, _⟩) rfl (by kernel_rfl) (by kernel_rfl) (by kernel_rfl) (fun _ _ _ h => h) (Or.inl ⟨by rfl, ?a105⟩) (by assumption) ?b105
      case a105 => (intro w hSw; (try dsimp only at hSw); go_simp; try with_reducible rfl)
      try simp only [Act.put, List.setIfInBounds_toArray, List.set_cons_zero, List.set_cons_succ]
      refine' wpAnyH_take (i := 19) (oi := ⟨_, _, _, _, _, _⟩) rfl (by kernel_rfl) (by kernel_rfl) (by kernel_rfl) (fun _ _ _ h => h) (Or.inl ⟨by rfl, ?a106⟩) (by assumption) ?b106
      case a106 => (intro w hSw; (try dsimp only at hSw); go_simp; try with_reducible rfl)
      try simp only [Act.put, List.setIfInBounds_toArray, List.set_cons_zero, List.set_cons_succ]
      refine' wpAnyH_take (i := 20) (oi := ⟨_, _, _, _, _, _⟩) rfl (by kernel_rfl) (by kernel_rfl) (by kernel_rfl) (fun _ _ _ h => h) (Or.inl ⟨by rfl, ?a107⟩) (by assumption) ?b107
      case a107 => (intro w hSw; (try dsimp only at hSw); go_simp; try with_reducible rfl)
      try simp only [Act.put, List.setIfInBounds_toArray, List.set_cons_zero, List.set_cons_succ]
      refine' wpAnyH_take (i := 21) (oi := ⟨_, _, _, _, _, _⟩) rfl (by kernel_rfl) (by kernel_rfl) (by kernel_rfl) (fun _ _ _ h => h) (Or.inl ⟨by rfl, ?a108⟩) (by assumption) ?b108
      case a108 => (intro w hSw; (try dsimp only at hSw); go_simp; try with_reducible rfl)
      try simp only [Act.put, List.setIfInBounds_toArray, List.set_cons_zero, List.set_cons_succ]
      refine' wpAnyH_take (i := 22) (oi := ⟨_, _, _, _, _, _⟩) rfl (by kernel_rfl) (by kernel_rfl) (by kernel_rfl) (fun _ _ _ h => h) (Or.inl ⟨by rfl, ?a109⟩) (by assumption) ?b109
      case a109 => (intro w hSw; (try dsimp only at hSw); go_simp; try with_reducible rfl)
      try simp only [Act.put, List.setIfInBounds_toArray, List.set_cons_zero, List.set_cons_succ]
      refine' wpAnyH_take (i := 23) (oi := ⟨_, _, _, _, _, _⟩) rfl (by kernel_rfl) (by kernel_rfl) (by kernel_rfl) (fun _ _ _ h => h) (Or.inl ⟨by rfl, ?a110⟩) (by assumption) ?b110
      case a110 => (intro w hSw; (try dsimp only at hSw); go_simp; try with_reducible rfl)
      try simp only [Act.put, List.setIfInBounds_toArray, List.set_cons_zero, List.set_cons_succ]
      refine' wpAnyH_take (i := 24) (oi := ⟨_, _, _, _, _, _⟩) rfl (by kernel_rfl) (by kernel_rfl) (by kernel_rfl) (fun _ _ _ h => h) (Or.inl ⟨by rfl, ?a111⟩) (by assumption) ?b111
      case a111 => (intro w hSw; (try dsimp only at hSw); go_simp; try with_reducible rfl)
      try simp only [Act.put, List.setIfInBounds_toArray, List.set_cons_zero, List.set_cons_succ]
      refine' wpAnyH_take (i := 25) (oi := ⟨_, _, _, _, _, _⟩) rfl (by kernel_rfl) (by kernel_rfl) (by kernel_rfl) (fun _ _ _ h => h) (Or.inl ⟨by rfl, ?a112⟩) (by assumption) ?b112
      case a112 => (intro w hSw; (try dsimp only at hSw); go_simp; try with_reducible rfl)
      try simp only [Act.put, List.setIfInBounds_toArray, List.set_cons_zero, List.set_cons_succ]
      refine' wpAnyH_take (i := 26) (oi := ⟨_, _, _, _, _, _⟩) rfl (by kernel_rfl) (by kernel_rfl) (by kernel_rfl) (fun _ _ _ h => h) (Or.inl ⟨by rfl, ?a113⟩) (by assumption) ?b113
      case a113 => (intro w hSw; (try dsimp only at hSw); go_simp; try with_reducible rfl)
      try simp only [Act.put, List.setIfInBounds_toArray, List.set_cons_zero, List.set_cons_succ]
      refine' wpAnyH_take (i := 27) (oi := ⟨_, _, _, _, _, _⟩) rfl (by kernel_rfl) (by kernel_rfl) (by kernel_rfl) (fun _ _ _ h => h) (Or.inl ⟨by rfl, ?a114⟩) (by assumption) ?b114
      case a114 => (intro w hSw; (try dsimp only at hSw); go_simp; try with_reducible rfl)
      try simp only [Act.put, List.setIfInBounds_toArray, List.set_cons_zero, List.set_cons_succ]
      refine wpAnyH_ready (rs := [28]) (by kernel_rfl) (by simp) ?_
      refine AllReadyH.cons (o := ⟨_, _, _, _, _, _⟩) rfl (fun K hK => ?_) AllReadyH.nil
      go_simp
      go_at_call 9
      refine (ChPut_calls none 0 0 [] _ ⟨rfl, fun h => by omega⟩ (fun x hx => by cases hx) (by decide) (by omega) (HT.out.below (HB5.out.trans ((Later.bel LB).mono HB5.out.size))).keys (HT.out.below (HB5.out.trans ((Later.bel LB).mono HB5.out.size))).beg (HT.out.below (HB5.out.trans ((Later.bel LB).mono HB5.out.size))).mag).mono ?_
      rintro e wC ⟨vC, rfl, hoC, hbC⟩
      obtain ⟨AC, cC, eC⟩ : ∃ AC cC, vC = .slice AC 0 cC := own_slice hoC.out
      subst eC
      have LC := Later.step LB hbC
      refine hK.out _ _ (⟨LC, C0 _ LC, C1 _ LC, V1 _ LC, V2 _ LC, V3 _ LC⟩) (fun hHeldN => ?_)
      clear hK K hHeld
      have hHeld := hHeldN
      clear hHeldN
      try simp only [Act.put, List.setIfInBounds_toArray, List.set_cons_zero, List.set_cons_succ]
      refine' wpAnyH_take (i := 29) (oi := ⟨_, _, _, _, _, _⟩) rfl (by kernel_rfl) (by kernel_rfl) (by kernel_rfl) (fun _ _ _ h => h) (Or.inl ⟨by rfl, ?a115⟩) (by assumption) ?b115
      case a115 => (intro w hSw; (try dsimp only at hSw); go_simp; try with_reducible rfl)
      try simp only [Act.put, List.setIfInBounds_toArray, List.set_cons_zero, List.set_cons_succ]
      refine' wpAnyH_take (i := 30) (oi := ⟨_, _, _, _, _, _⟩) rfl (by kernel_rfl) (by kernel_rfl) (by kernel_rfl) (fun _ _ _ h => h) (Or.inl ⟨by rfl, ?a116⟩) (by assumption) ?b116
      case a116 => (intro w hSw; (try dsimp only at hSw); go_simp; try with_reducible rfl)
      try simp only [Act.put, List.setIfInBounds_toArray, List.set_cons_zero, List.set_cons_succ]
      refine' wpAnyH_take (i := 31) (oi := ⟨_, _, _, _, _, _⟩) rfl (by kernel_rfl) (by kernel_rfl) (by kernel_rfl) (fun _ _ _ h => h) (Or.inl ⟨by rfl, ?a117⟩) (by assumption) ?b117
      case a117 => (intro w hSw; (try dsimp only at hSw); go_simp; try with_reducible rfl)
      try simp only [Act.put, List.setIfInBounds_toArray, List.set_cons_zero, List.set_cons_succ]
      refine' wpAnyH_take (i := 32) (oi := ⟨_, _, _, _, _, _⟩) rfl (by kernel_rfl) (by kernel_rfl) (by kernel_rfl) (fun _ _ _ h => h) (Or.inl ⟨by rfl, ?a118⟩) (by assumption) ?b118
      case a118 => (intro w hSw; (try dsimp only at hSw); go_simp; try with_reducible rfl)
      try simp only [Act.put, List.setIfInBounds_toArray, List.set_cons_zero, List.set_cons_succ]
      refine wpAnyH_done (by kernel_rfl) ?_ _
      refine NoPanic.normal ?_
      go_wp2
      go_ret
      exact ⟨rfl, HB5.out.trans ((Later.bel LC).mono HB5.out.size)⟩
     ·have cv := conv_all (c := cB) hrB
      rw [← H2.out] at cv
      go_simp
      clear cv
      refine hK.out _ _ (⟨LB, C0 _ LB, C1 _ LB, V1 _ LB, V2 _ LB, V3 _ LB⟩) (fun hHeldN => ?_)
      clear hK K hHeld
      have hHeld := hHeldN
      clear hHeldN
      try simp only [Act.put, List.setIfInBounds_toArray, List.set_cons_zero, List.set_cons_succ]
      refine wpAnyH_ready (rs := [5]) (by kernel_rfl) (by simp) ?_
      refine AllReadyH.cons (o := ⟨_, _, _, _, _, _⟩) rfl (fun K hK => ?_) AllReadyH.nil
      have cv := conv_all (c := cA) hrA'
      rw [← H1.out] at cv
      go_simp
      clear cv
      refine hK.out _ _ (⟨LB, C0 _ LB, C1 _ LB, V1 _ LB, V2 _ LB, V3 _ LB⟩) (fun hHeldN => ?_)
      clear hK K hHeld
      have hHeld := hHeldN
      clear hHeldN
      try simp only [Act.put, List.setIfInBounds_toArray, List.set_cons_zero, List.set_cons_succ]
      refine' wpAnyH_take (i := 11) (oi := ⟨_, _, _, _, _, _⟩) rfl (by kernel_rfl) (by kernel_rfl) (by kernel_rfl) (fun _ _ _ h => h) (Or.inl ⟨by rfl, ?a119⟩) (by assumption) ?b119
      case a119 => (intro w hSw; (try dsimp only at hSw); go_simp; try with_reducible rfl)
      try simp only [Act.put, List.setIfInBounds_toArray, List.set_cons_zero, List.set_cons_succ]
      refine' wpAnyH_take (i := 12) (oi := ⟨_, _, _, _, _, _⟩) rfl (by kernel_rfl) (by kernel_rfl) (by kernel_rfl) (fun _ _ _ h => h) (Or.inl ⟨by rfl, ?a120⟩) (by assumption) ?b120
      case a120 => (intro w hSw; (try dsimp only at hSw); go_simp; try with_reducible rfl)
      try simp only [Act.put, List.setIfInBounds_toArray, List.set_cons_zero, List.set_cons_succ]
      refine' wpAnyH_take (i := 13) (oi := ⟨_, _, _, _, _, _⟩) rfl (by kernel_rfl) (by kernel_rfl) (by kernel_rfl) (fun _ _ _ h => h) (Or.inl ⟨by rfl, ?a121⟩) (by assumption) ?b121
      case a121 => (intro w hSw; (try dsimp only at hSw); go_simp; try with_reducible rfl)
      try simp only [Act.put, List.setIfInBounds_toArray, List.set_cons_zero, List.set_cons_succ]
      refine' wpAnyH_take (i := 14) (oi := ⟨_, _, _, _, _, _⟩) rfl (by kernel_rfl) (by kernel_rfl) (by kernel_rfl) (fun _ _ _ h => h) (Or.inl ⟨by rfl, ?a122⟩) (by assumption) ?b122
      case a122 => (intro w hSw; (try dsimp only at hSw); go_simp; try with_reducible rfl)
      try simp only [Act.put, List.setIfInBounds_toArray, List.set_cons_zero, List.set_cons_succ]
      refine' wpAnyH_take (i := 15) (oi := ⟨_, _, _, _, _, _⟩) rfl (by kernel_rfl) (by kernel_rfl) (by kernel_rfl) (fun _ _ _ h => h) (Or.inl ⟨by rfl, ?a123⟩) (by assumption) ?b123
      case a123 => (intro w hSw; (try dsimp only at hSw); go_simp; try with_reducible rfl)
      try simp only [Act.put, List.setIfInBounds_toArray, List.set_cons_zero, List.set_cons_succ]
      refine' wpAnyH_take (i := 16) (oi := ⟨_, _, _, _, _, _⟩) rfl (by kernel_rfl) (by kernel_rfl) (by kernel_rfl) (fun _ _ _ h => h) (Or.inl ⟨by rfl, ?a124⟩) (by assumption) ?b124
      case a124 => (intro w hSw; (try dsimp only at hSw); go_simp; try with_reducible rfl)
      try simp only [Act.put, List.setIfInBounds_toArray, List.set_cons_zero, List.set_cons_succ]
      refine' wpAnyH_take (i := 17) (oi := ⟨_, _, _, _, _, _⟩) rfl (by kernel_rfl) (by kernel_rfl) (by kernel_rfl) (fun _ _ _ h => h) (Or.inl ⟨by rfl, ?a125⟩) (by assumption) ?b125
      case a125 => (intro w hSw; (try dsimp only at hSw); go_simp; try with_reducible rfl)
      try simp only [Act.put, List.setIfInBounds_toArray, List.set_cons_zero, List.set_cons_succ]
      refine' wpAnyH_take (i := 18) (oi := ⟨_, _, _, _, _, _⟩) rfl (by kernel_rfl) (by kernel_rfl) (by kernel_rfl) (fun _ _ _ h => h) (Or.inl ⟨by rfl, ?a126⟩) (by assumption) ?b126
      case a126 => (intro w hSw; (try dsimp only at hSw); go_simp; try with_reducible rfl)
      try simp only [Act.put, List.setIfInBounds_toArray, List.set_cons_zero, List.set_cons_succ]
      refine' wpAnyH_take (i := 19) (oi := ⟨_, _, _, _, _, _⟩) rfl (by kernel_rfl) (by kernel_rfl) (by kernel_rfl) (fun _ _ _ h => h) (Or.inl ⟨by rfl, ?a127⟩) (by assumption) ?b127
      case a127 => (intro w hSw; (try dsimp only at hSw); go_simp; try with_reducible rfl)
      try simp only [Act.put, List.setIfInBounds_toArray, List.set_cons_zero, List.set_cons_succ]
      refine' wpAnyH_take (i := 20) (oi := ⟨_, _, _, _, _, _⟩) rfl (by kernel_rfl) (by kernel_rfl) (by kernel_rfl) (fun _ _ _ h => h) (Or.inl ⟨by rfl, ?a128⟩) (by assumption) ?b128
      case a128 => (intro w hSw; (try dsimp only at hSw); go_simp; try with_reducible rfl)
      try simp only [Act.put, List.setIfInBounds_toArray, List.set_cons_zero, List.set_cons_succ]
      refine' wpAnyH_take (i := 21) (oi := ⟨_, _, _, _, _, _⟩) rfl (by kernel_rfl) (by kernel_rfl) (by kernel_rfl) (fun _ _ _ h => h) (Or.inl ⟨by rfl, ?a129⟩) (by assumption) ?b129
      case a129 => (intro w hSw; (try dsimp only at hSw); go_simp; try with_reducible rfl)
      try simp only [Act.put, List.setIfInBounds_toArray, List.set_cons_zero, List.set_cons_succ]
      refine' wpAnyH_take (i := 22) (oi := ⟨_, _, _, _, _, _⟩) rfl (by kernel_rfl) (by kernel_rfl) (by kernel_rfl) (fun _ _ _ h => h) (Or.inl ⟨by rfl, ?a130⟩) (by assumption) ?b130
      case a130 => (intro w hSw; (try dsimp only at hSw); go_simp; try with_reducible rfl)
      try simp only [Act.put, List.setIfInBounds_toArray, List.set_cons_zero, List.set_cons_succ]
      refine' wpAnyH_take (i := 23) (oi := ⟨_, _, _, _, _, _⟩) rfl (by kernel_rfl) (by kernel_rfl) (by kernel_rfl) (fun _ _ _ h => h) (Or.inl ⟨by rfl, ?a131⟩) (by assumption) ?b131
      case a131 => (intro w hSw; (try dsimp only at hSw); go_simp; try with_reducible rfl)
      try simp only [Act.put, List.setIfInBounds_toArray, List.set_cons_zero, List.set_cons_succ]
      refine' wpAnyH_take (i := 24) (oi := ⟨_, _, _, _, _, _⟩) rfl (by kernel_rfl) (by kernel_rfl) (by kernel_rfl) (fun _ _ _ h => h) (Or.inl ⟨by rfl, ?a132⟩) (by assumption) ?b132
      case a132 => (intro w hSw; (try dsimp only at hSw); go_simp; try with_reducible rfl)
      try simp only [Act.put, List.setIfInBounds_toArray, List.set_cons_zero, List.set_cons_succ]
      refine' wpAnyH_take (i := 25) (oi := ⟨_, _, _, _, _, _⟩) rfl (by kernel_rfl) (by kernel_rfl) (by kernel_rfl) (fun _ _ _ h => h) (Or.inl ⟨by rfl, ?a133⟩) (by assumption) ?b133
      case a133 => (intro w hSw; (try dsimp only at hSw); go_simp; try with_reducible rfl)
      try simp only [Act.put, List.setIfInBounds_toArray, List.set_cons_zero, List.set_cons_succ]
      refine' wpAnyH_take (i := 26) (oi := ⟨_, _, _, _, _, _⟩) rfl (by kernel_rfl) (by kernel_rfl) (by kernel_rfl) (fun _ _ _ h => h) (Or.inl ⟨by rfl, ?a134⟩) (by assumption) ?b134
      case a134 => (intro w hSw; (try dsimp only at hSw); go_simp; try with_reducible rfl)
      try simp only [Act.put, List.setIfInBounds_toArray, List.set_cons_zero, List.set_cons_succ]
      refine' wpAnyH_take (i := 27) (oi := ⟨_, _, _, _, _, _⟩) rfl (by kernel_rfl) (by kernel_rfl) (by kernel_rfl) (fun _ _ _ h => h) (Or.inl ⟨by rfl, ?a135⟩) (by assumption) ?b135
      case a135 => (intro w hSw; (try dsimp only at hSw); go_simp; try with_reducible rfl)
      try simp only [Act.put, List.setIfInBounds_toArray, List.set_cons_zero, List.set_cons_succ]
      refine wpAnyH_ready (rs := [28]) (by kernel_rfl) (by simp) ?_
      refine AllReadyH.cons (o := ⟨_, _, _, _, _, _⟩) rfl (fun K hK => ?_) AllReadyH.nil
      go_simp
      go_at_call 9
      refine (ChPut_calls none 0 0 [] _ ⟨rfl, fun h => by omega⟩ (fun x hx => by cases hx) (by decide) (by omega) (HT.out.below (HB5.out.trans ((Later.bel LB).mono HB5.out.size))).keys (HT.out.below (HB5.out.trans ((Later.bel LB).mono HB5.out.size))).beg (HT.out.below (HB5.out.trans ((Later.bel LB).mono HB5.out.size))).mag).mono ?_
      rintro e wC ⟨vC, rfl, hoC, hbC⟩
      obtain ⟨AC, cC, eC⟩ : ∃ AC cC, vC = .slice AC 0 cC := own_slice hoC.out
      subst eC
      have LC := Later.step LB hbC
      refine hK.out _ _ (⟨LC, C0 _ LC, C1 _ LC, V1 _ LC, V2 _ LC, V3 _ LC⟩) (fun hHeldN => ?_)
      clear hK K hHeld
      have hHeld := hHeldN
      clear hHeldN
      try simp only [Act.put, List.setIfInBounds_toArray, List.set_cons_zero, List.set_cons_succ]
      refine' wpAnyH_take (i := 29) (oi := ⟨_, _, _, _, _, _⟩) rfl (by kernel_rfl) (by kernel_rfl) (by kernel_rfl) (fun _ _ _ h => h) (Or.inl ⟨by rfl, ?a136⟩) (by assumption) ?b136
      case a136 => (intro w hSw; (try dsimp only at hSw); go_simp; try with_reducible rfl)
      try simp only [Act.put, List.setIfInBounds_toArray, List.set_cons_zero, List.set_cons_succ]
      refine' wpAnyH_take (i := 30) (oi := ⟨_, _, _, _, _, _⟩) rfl (by kernel_rfl) (by kernel_rfl) (by kernel_rfl) (fun _ _ _ h => h) (Or.inl ⟨by rfl, ?a137⟩) (by assumption) ?b137
      case a137 => (intro w hSw; (try dsimp only at hSw); go_simp; try with_reducible rfl)
      try simp only [Act.put, List.setIfInBounds_toArray, List.set_cons_zero, List.set_cons_succ]
      refine' wpAnyH_take (i := 31) (oi := ⟨_, _, _, _, _, _⟩) rfl (by kernel_rfl) (by kernel_rfl) (by kernel_rfl) (fun _ _ _ h => h) (Or.inl ⟨by rfl, ?a138⟩) (by assumption) ?b138
      case a138 => (intro w hSw; (try dsimp only at hSw); go_simp; try with_reducible rfl)
      try simp only [Act.put, List.setIfInBounds_toArray, List.set_cons_zero, List.set_cons_succ]
      refine' wpAnyH_take (i := 32) (oi := ⟨_, _, _, _, _, _⟩) rfl (by kernel_rfl) (by kernel_rfl) (by kernel_rfl) (fun _ _ _ h => h) (Or.inl ⟨by rfl, ?a139⟩) (by assumption) ?b139
      case a139 => (intro w hSw; (try dsimp only at hSw); go_simp; try with_reducible rfl)
      try simp only [Act.put, List.setIfInBounds_toArray, List.set_cons_zero, List.set_cons_succ]
      refine wpAnyH_done (by kernel_rfl) ?_ _
      refine NoPanic.normal ?_
      go_wp2
      go_ret
      exact ⟨rfl, HB5.out.trans ((Later.bel LC).mono HB5.out.size)⟩
  ·go_wp2_with fail
   refine (awake22_calls _ (HT.out.below HB1.out)).mono ?_
   rintro e w2 ⟨rfl, hb2⟩
   have H2 := Lib.hid (below_seq HB1.out (Nat.le_refl _) hb2)
   clear hb2
   go_wp2
   go_ret
   exact ⟨rfl, H2.out⟩
 ·go_wp2_with fail
  refine (awake22_calls _ (HT.out.below HB1.out)).mono ?_
  rintro e w2 ⟨rfl, hb2⟩
  have H2 := Lib.hid (below_seq HB1.out (Nat.le_refl _) hb2)
  clear hb2
  go_wp2
  go_ret
  exact ⟨rfl, H2.out⟩
theorem ChunkPuts_walk (A : Option Addr) (len cap : Nat) (z : List Int) (B : Option Addr) (len2 cap2 : Nat) (z2 : List Int) (pr : Bool) (w : World) (h : IsRow .u8 w A len cap z) (y : len * 1 ≤ 140737488351232) (h2 : IsRow .u8 w B len2 cap2 z2) (y2 : len2 * 1 ≤ 140737488351232) (hL : Tabs22 w) :
  Calls Tryd.prog 3 #[.slice A len cap, .slice B len2 cap2, .bool pr] w fun e w' => e = .returned (.bool true) ∧ Below w.heap.size w w' :=
 ChunkPuts_calls (rPlain_of rSha_calls) A len cap (z.take len) B len2 cap2 (z2.take len2) pr w h.rd (isRow_byte h) (isRow_nil h) (isRow_le h) (by omega) h2.rd (isRow_byte h2) (isRow_nil h2) (isRow_le h2) (by omega) hL
end Go.Proofs.YtendohnkhbgfbaaDoor
