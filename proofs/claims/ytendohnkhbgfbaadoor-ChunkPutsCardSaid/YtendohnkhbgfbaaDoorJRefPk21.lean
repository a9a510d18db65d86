/-
  Texts joined into one file: DefX, DefY, BytZ.
-/
import Derived.Test.YtendohnkhbgfbaaDoorJRefPk18
import Derived.Test.YtendohnkhbgfbaaDoorJRefPk19
import Derived.Test.YtendohnkhbgfbaaDoorJRefPk20
import Derived.Laws.BytesString
import Derived.Test.YtendohnkhbgfbaaDoorJRefPk6
import Derived.Test.YtendohnkhbgfbaaDoorJRefPk14
import Derived.ProofKit
import Derived.OpenShut
namespace Go.Proofs.YtendohnkhbgfbaaDoor
open Go.RowKit

theorem lensOk_of {xs : List Int} (h : ∀ j, 0 ≤ rd xs j ∧ rd xs j ≤ 15) : lensOk xs = true := by
 unfold lensOk
 rw [List.all_eq_true]
 intro x hx
 obtain ⟨j, hj, rfl⟩ := List.mem_iff_getElem.1 hx
 have := h j
 rw [rd_getElem hj] at this
 simpa using this
set_option maxHeartbeats 1000000 in
theorem open_calls (A C : Option Addr) (n m c1 c2 : Nat) (a b : List Int) (w : World) (hA : Rd w .i64 A n a) (hC : Rd w .i64 C m b) (hn : 0 < n) (hn2 : n ≤ 1000) (hm : 0 < m) (hm2 : m ≤ 1000) (ha : ∀ j, 0 ≤ rd a j ∧ rd a j ≤ 15) (hb : ∀ j, 0 ≤ rd b j ∧ rd b j ≤ 15) :
  Calls Tryd.prog 51 #[.slice A n c1, .slice C m c2] w fun e w' => ∃ kb gx gy c3 c4, e = .returned (.pointer (some ⟨kb, 0, none⟩)) ∧ w'.heap[kb]? = some (.cells #[.slice A n c1, .slice C m c2, .slice (some ⟨gx, 0, none⟩) n c3, .slice (some ⟨gy, 0, none⟩) m c4] 110 (0, 0)) ∧
   Hid (Rd w' .u64 (some ⟨gx, 0, none⟩) n (codesOf a)) ∧ Hid (Rd w' .u64 (some ⟨gy, 0, none⟩) m (codesOf b)) ∧ (w.heap.size ≤ kb ∧ w.heap.size ≤ gx ∧ w.heap.size ≤ gy ∧ gx < w'.heap.size ∧ gy < w'.heap.size ∧ kb < w'.heap.size) ∧ Below w.heap.size w w' := by
 have HA := Lib.hid hA
 have HC := Lib.hid hC
 have Hoa := Lib.hid (lensOk_of ha)
 have Hob := Lib.hid (lensOk_of hb)
 clear hA hC ha hb
 go_enter Tryd.func51, Tryd.ntmps51
 go_wp2_with fail
 refine (Codes_calls A n c1 a _ HA.out (by omega) Hoa.out).mono ?_
 rintro e w1 ⟨v1, rfl, ho1, hb1⟩
 obtain ⟨gx, cx, rfl, hg1, hg2, _, _, _⟩ := own_form ho1 hn
 obtain ⟨_, _, e1, _, hr1⟩ := own_rd ho1
 cases e1
 have HR1 := Lib.hid hr1
 have HB1 := Lib.hid hb1
 have hsz1 := hb1.size
 clear ho1 hr1 hb1
 go_wp2_with fail
 refine (Codes_calls C m c2 b _ (HC.out.below HB1.out) (by omega) Hob.out).mono ?_
 rintro e w2 ⟨v2, rfl, ho2, hb2⟩
 obtain ⟨gy, cy, rfl, hg3, hg4, _, _, _⟩ := own_form ho2 hm
 obtain ⟨_, _, e2, _, hr2⟩ := own_rd ho2
 cases e2
 have HR1' := Lib.hid (HR1.out.below hb2)
 have HR2 := Lib.hid hr2
 have HB2 := Lib.hid (below_seq HB1.out (Nat.le_refl _) hb2)
 have hsz2 := hb2.size
 clear ho2 hr2 hb2
 go_wp2
 go_ret
 refine ⟨w2.heap.size, gx, gy, cx, cy, rfl, heap_alloc_new w2 _, HR1'.out.alloc _, HR2.out.alloc _, ?_, below_new HB2.out (Nat.le_refl _) _⟩
 simp
 omega
theorem off_new {w : World} {B h : Nat} {L : List Int} {v : Value} (H : WrAt w B h L v) {g : Nat} (hg : w.heap.size ≤ g) : g ≠ h ∧ v.ownBlock ≠ some g :=
 ⟨fun e => by have := H.lt; omega, fun e => by have := (H.own.lt _ e).2; omega⟩
theorem tokOk_press {bs : List Int} {len : Nat} (hl : bs.length = len) (hb : ∀ j, j < len → 0 ≤ rd bs j ∧ rd bs j ≤ 255) : TokOk (pressL bs) := pressL_ok (fun j hj => hb j (by omega))
set_option maxHeartbeats 1000000 in set_option maxRecDepth 100000 in
theorem DFixed_calls (A : Option Addr) (len cap : Nat) (bs : List Int) (w : World) (hR : Rd w .u8 A len bs) (hb : ∀ j, j < len → 0 ≤ rd bs j ∧ rd bs j ≤ 255) (hcap : len ≤ cap) (hlen : len ≤ 100000) (hT : Tabs w) :
  Calls Tryd.prog 28 #[.slice A len cap] w fun e w' => ∃ v, e = .returned (.tuple #[v, .int .i64 (fixedS bs).length]) ∧ Hid (w'.ownsRow w.heap.size 5 1 v (packB (fixedS bs)).length (ints .u8 (packB (fixedS bs)))) ∧ (fixedS bs).length ≤ 8000000 ∧ Below w.heap.size w w' := by
 have HR := Lib.hid hR
 have Hb := Lib.hid hb
 have HT := Lib.hid hT
 have Hl := Lib.hid hR.1
 have hto : 4 < w.heap.size ∧ 5 < w.heap.size := ⟨World.block_lt_of_cell? _ _ (hT.1 0 (by decide)).1, World.block_lt_of_cell? _ _ (hT.2 0 (by decide)).1⟩
 have Hto := Lib.hid hto
 clear hR hb hT hto
 go_enter Tryd.func28, Tryd.ntmps28
 go_upto_region 2 with fail
 obtain ⟨W0, hW0⟩ : ∃ W, W = (w.alloc (.cells #[.slice none 0 0, .int .i64 0] 91)).alloc (.cells #[.pointer (some ⟨w.heap.size, 0, none⟩)] 93) := ⟨_, rfl⟩
 obtain ⟨wh, hh⟩ : ∃ wh, wh = w.heap.size := ⟨_, rfl⟩
 rw [← hh] at hW0
 rw [← hh, ← hW0]
 have hb0 : Below w.heap.size w W0 := by rw [hW0]; exact below_new ((Below.refl _ _).alloc (Nat.le_refl _) _) (Nat.le_refl _) _
 have hs0 : wh + 2 ≤ W0.heap.size := by rw [hW0, hh]; simp
 have hr0 : W0.heap[wh]? = some (.cells #[.slice none 0 0, .int .i64 0] 91 (0, 0)) := by
  rw [hW0, hh, Below.heap_alloc _ _ _ (by simp)]
  exact heap_alloc_new w _
 have hr1 : W0.heap[wh + 1]? = some (.cells #[.pointer (some ⟨wh, 0, none⟩)] 93 (0, 0)) := by
  have h9 := heap_alloc_new (w.alloc (.cells #[.slice none 0 0, .int .i64 0] 91)) (.cells #[.pointer (some ⟨wh, 0, none⟩)] 93)
  rw [hW0]
  simp only [World.size_alloc, ← hh] at h9
  exact h9
 have HWr0 : Hid (WrAt W0 wh wh [] (.slice none 0 0)) := ⟨hr0, World.ownsRow_nil _ _ _ _, fun z hz => by cases hz⟩
 have Hh := Lib.hid hh
 have Hb0 := Lib.hid hb0
 have Hr1 := Lib.hid hr1
 have q := cell_of_row W0 (wh + 1) 0 _ _ (0, 0) hr1
 simp only [List.getElem?_toArray, List.getElem?_cons_zero] at q
 clear hW0 hh hb0 hr0 hr1
 go_wp2_with fail
 refine (Put_calls wh wh 1 [] _ (some ⟨W0.heap.size, 0, none⟩) 1 1 [1] _ (HWr0.out.below ((Below.refl _ _).alloc (Nat.le_refl _) _)) (Blk.rd (heap_alloc_new W0 _) rfl) (fun j hj => ?_) (by omega) (fun b o e => HWr0.out.fresh e) (by simp) (by simp; omega)).mono ?_
 ·obtain rfl : j = 0 := by omega
  decide
 rintro e w1 ⟨v1, rfl, hw1, hs1⟩
 rw [show lows [1] 1 1 = [1] from by decide, List.nil_append] at hw1
 have HW1 := Lib.hid hw1
 have HT1 := Lib.hid (WStep.after ((Below.refl _ _).alloc (Nat.le_refl _) _) hs1)
 have q1 := cell_of_row w1 (wh + 1) 0 _ _ (0, 0) (HT1.out.blk HWr0.out Hr1.out (by decide) (by omega))
 simp only [List.getElem?_toArray, List.getElem?_cons_zero] at q1
 have hsz1 := HT1.out.fr.size
 clear hw1 hs1 q
 go_wp2_with fail
 refine (Put_calls wh wh 2 _ v1 (some ⟨w1.heap.size, 0, none⟩) 1 1 [1] _ (HW1.out.below ((Below.refl _ _).alloc (Nat.le_refl _) _)) (Blk.rd (heap_alloc_new w1 _) rfl) (fun j hj => ?_) (by omega) (fun b o e => HW1.out.fresh e) (by decide) (by simp; omega)).mono ?_
 ·obtain rfl : j = 0 := by omega
  decide
 rintro e w2 ⟨v2, rfl, hw2, hs2⟩
 rw [show lows [1] 2 1 = [1, 0] from by decide, show [(1 : Int)] ++ [1, 0] = [1, 1, 0] from rfl] at hw2
 have HW2 := Lib.hid hw2
 have HT2 := Lib.hid (HT1.out.trans (WStep.after ((Below.refl _ _).alloc (Nat.le_refl _) _) hs2))
 have q2 := cell_of_row w2 (wh + 1) 0 _ _ (0, 0) (HT2.out.blk HWr0.out Hr1.out (by decide) (by omega))
 simp only [List.getElem?_toArray, List.getElem?_cons_zero] at q2
 have hsz2 := HT2.out.fr.size
 have Hb2 := Lib.hid (Hb0.out.trans (wst_below HT2.out (Nat.le_of_eq Hh.out.symm) Hb0.out.size))
 have HR1 := Lib.hid (HR.out.below Hb2.out)
 have qL := Later.cell q2
 have L0 : Later w2 w2.drew := (Later.refl w2).drew
 clear hw2 hs2 q1 q2
 go_upto_region 4 with fail
 refine wp_region_last (n := 8) (on := ⟨_, _, _, _, _, _⟩) (S := fun W => Later w2 W) (by kernel_rfl) rfl (by kernel_rfl) (L0) (fun hHeld => ?_)
 refine' wpAnyH_take (i := 4) (oi := ⟨_, _, _, _, _, _⟩) rfl (by kernel_rfl) (by kernel_rfl) (by kernel_rfl) (fun _ _ _ h => h) (Or.inl ⟨by rfl, ?a0⟩) (by assumption) ?b0
 case a0 => (intro w hSw; (try dsimp only at hSw); go_simp; try with_reducible rfl)
 try simp only [Act.put, List.setIfInBounds_toArray, List.set_cons_zero, List.set_cons_succ]
 refine' wpAnyH_take (i := 5) (oi := ⟨_, _, _, _, _, _⟩) rfl (by kernel_rfl) (by kernel_rfl) (by kernel_rfl) (fun _ _ _ h => h) (Or.inl ⟨by rfl, ?a1⟩) (by assumption) ?b1
 case a1 => (intro w hSw; (try dsimp only at hSw); go_simp; try with_reducible rfl)
 try simp only [Act.put, List.setIfInBounds_toArray, List.set_cons_zero, List.set_cons_succ]
 refine' wpAnyH_take (i := 6) (oi := ⟨_, _, _, _, _, _⟩) rfl (by kernel_rfl) (by kernel_rfl) (by kernel_rfl) (fun _ _ _ h => h) (Or.inl ⟨by rfl, ?a2⟩) (by assumption) ?b2
 case a2 => (intro w hSw; (try dsimp only at hSw); go_simp; try with_reducible rfl)
 try simp only [Act.put, List.setIfInBounds_toArray, List.set_cons_zero, List.set_cons_succ]
 refine wpAnyH_ready (rs := [0]) (by kernel_rfl) (by simp) ?_
 refine AllReadyH.cons (o := ⟨_, _, _, _, _, _⟩) rfl (fun K hK => ?_) AllReadyH.nil
 go_simp
 go_at_call 52
 refine (Fixed_calls _).mono ?_
 rintro e wA ⟨ga, gb, rfl, hoA, hoB, hbA⟩
 obtain ⟨_, _, e1, _, hrA⟩ := own_rd hoA
 cases e1
 obtain ⟨_, _, e2, _, hrB⟩ := own_rd hoB
 cases e2
 have hgA := hoA.lt ga rfl
 have hgB := hoB.lt gb rfl
 have L1 : Later w2 wA := Later.step hHeld hbA
 have hszA := hHeld.bel.size
 have HrA := Lib.hid hrA
 have HrB := Lib.hid hrB
 clear hoA hoB hbA hrA hrB
 refine hK.out _ _ (L1) (fun hHeldN => ?_)
 clear hK K hHeld
 have hHeld := hHeldN
 clear hHeldN
 try simp only [Act.put, List.setIfInBounds_toArray, List.set_cons_zero, List.set_cons_succ]
 refine' wpAnyH_take (i := 1) (oi := ⟨_, _, _, _, _, _⟩) rfl (by kernel_rfl) (by kernel_rfl) (by kernel_rfl) (fun _ _ _ h => h) (Or.inl ⟨by rfl, ?a3⟩) (by assumption) ?b3
 case a3 => (intro w hSw; (try dsimp only at hSw); go_simp; try with_reducible rfl)
 try simp only [Act.put, List.setIfInBounds_toArray, List.set_cons_zero, List.set_cons_succ]
 refine' wpAnyH_take (i := 2) (oi := ⟨_, _, _, _, _, _⟩) rfl (by kernel_rfl) (by kernel_rfl) (by kernel_rfl) (fun _ _ _ h => h) (Or.inl ⟨by rfl, ?a4⟩) (by assumption) ?b4
 case a4 => (intro w hSw; (try dsimp only at hSw); go_simp; try with_reducible rfl)
 try simp only [Act.put, List.setIfInBounds_toArray, List.set_cons_zero, List.set_cons_succ]
 refine wpAnyH_ready (rs := [3]) (by kernel_rfl) (by simp) ?_
 refine AllReadyH.cons (o := ⟨_, _, _, _, _, _⟩) rfl (fun K hK => ?_) AllReadyH.nil
 go_simp
 go_at_call 51
 refine (open_calls _ _ 288 32 288 32 fixA fixB _ HrA.out HrB.out (by decide) (by decide) (by decide) (by decide) fixA_rng fixB_rng).mono ?_
 rintro e wB ⟨kb, gx, gy, c3, c4, rfl, hkb, HX, HY, hnew, hbB⟩
 have L2 : Later w2 wB := Later.step L1 hbB
 have Hkb := Lib.hid hkb
 have HrA2 := Lib.hid (HrA.out.below hbB)
 have HrB2 := Lib.hid (HrB.out.below hbB)
 clear hkb hbB
 refine hK.out _ _ (L2) (fun hHeldN => ?_)
 clear hK K hHeld
 have hHeld := hHeldN
 clear hHeldN
 try simp only [Act.put, List.setIfInBounds_toArray, List.set_cons_zero, List.set_cons_succ]
 refine wpAnyH_ready (rs := [7]) (by kernel_rfl) (by simp) ?_
 refine AllReadyH.cons (o := ⟨_, _, _, _, _, _⟩) rfl (fun K hK => ?_) AllReadyH.nil
 go_simp
 go_at_call 54
 refine (LPress_calls A len cap bs _ (HR1.out.below L2.bel) Hb.out (by omega) hcap).mono ?_
 rintro e wC ⟨vt, rfl, hot, hbC⟩
 obtain ⟨At, ct, rfl, htk⟩ := own_toks hot
 have hnt : Hid (∀ g o, At = some ⟨g, o, none⟩ → wB.heap.size ≤ g) := fun g o e => (hot.lt g (by rw [e]; rfl)).1
 have L3 : Later w2 wC := Later.step L2 hbC
 have HbC := Lib.hid hbC
 have Htk := Lib.hid htk
 clear hot hbC htk
 refine hK.out _ _ (L3) (fun hHeldN => ?_)
 clear hK K hHeld
 have hHeld := hHeldN
 clear hHeldN
 try simp only [Act.put, List.setIfInBounds_toArray, List.set_cons_zero, List.set_cons_succ]
 refine wpAnyH_done (by kernel_rfl) ?_ _
 change wpList _ _ _ _ _ _
 clear qL hHeld
 go_wp2_with fail
 have hpl := pressL_length bs
 rw [Hl.out] at hpl
 have hszB : wB.heap.size ≤ wC.heap.size := HbC.out.size
 have hbk : Book wC wh v2 kb (some ⟨ga, 0, none⟩) (some ⟨gb, 0, none⟩) (some ⟨gx, 0, none⟩) (some ⟨gy, 0, none⟩) 288 32 288 32 c3 c4 fixA fixB :=
  ⟨(HbC.out.block kb (by omega)).trans Hkb.out, HrA2.out.below HbC.out, HrB2.out.below HbC.out, HX.out.below HbC.out, HY.out.below HbC.out,
   fun b o e => by cases e; exact off_new HW2.out (by omega), fun b o e => by cases e; exact off_new HW2.out (by omega), fun b o e => by cases e; exact off_new HW2.out (by omega), fun b o e => by cases e; exact off_new HW2.out (by omega), off_new HW2.out (by omega)⟩
 refine (tokens_calls wh wh kb 288 32 288 32 c3 c4 (pressL bs).length ct [1, 1, 0] v2 _ _ _ _ At fixA fixB (pressL bs) _ (HW2.out.below L3.bel) hbk Htk.out (fun b o e => off_new HW2.out (Nat.le_trans (by have := L2.bel.size; omega) (hnt.out b o e))) (tokOk_press Hl.out Hb.out) (HT.out.below (Hb2.out.trans (L3.bel.mono Hb2.out.size))) (by have := Hto.out; have := Hh.out; omega) (Nat.le_refl _) (by decide) (by decide) (by decide) (by decide) fixA_rng fixB_rng (by omega) (by decide) (by have := L3.bel.size; omega)).mono ?_
 rintro e w5 ⟨v5, rfl, hw5, hs5⟩
 have e5 : [1, 1, 0] ++ toksS fixA fixB (pressL bs) = fixedS bs := rfl
 rw [e5] at hw5
 have HW5 := Lib.hid hw5
 have HT5 := Lib.hid (HT2.out.trans (WStep.after L3.bel hs5))
 have q5 := cell_of_row w5 (wh + 1) 0 _ _ (0, 0) (HT5.out.blk HWr0.out Hr1.out (by decide) (by omega))
 simp only [List.getElem?_toArray, List.getElem?_cons_zero] at q5
 have qL := Later.cell q5
 have L0 : Later w5 w5.drew := (Later.refl w5).drew
 have hlen5 : (fixedS bs).length ≤ 8000000 := by
  have h1 := toksTo_len fixA_rng fixB_rng (tokOk_press Hl.out Hb.out) (pressL bs).length (Nat.le_refl _)
  rw [toksTo_all] at h1
  have h2 := symCode_len fixA_rng 256
  unfold fixedS toksS
  rw [List.length_append, List.length_append]
  show 3 + (_ + _) ≤ _
  omega
 have hsz5 := HT5.out.fr.size
 have Hb5 := Lib.hid (Hb0.out.trans (wst_below HT5.out (Nat.le_of_eq Hh.out.symm) Hb0.out.size))
 have HL5 := Lib.hid hlen5
 clear hw5 hs5 q5 e5 hlen5 hbk hnt Htk L3 L2 L1 hnew hszB hszA hgA hgB HbC Hkb HrA2 HrB2 HX HY
 go_upto_region 5 with fail
 refine wp_region_noPanic ?_
 refine wp_region_held_drew (S := fun W => Later w5 W) (by kernel_rfl) (L0) (fun hHeld => ?_)
 refine' wpAnyH_take (i := 0) (oi := ⟨_, _, _, _, _, _⟩) rfl (by kernel_rfl) (by kernel_rfl) (by kernel_rfl) (fun _ _ _ h => h) (Or.inl ⟨by rfl, ?a5⟩) (by assumption) ?b5
 case a5 => (intro w hSw; (try dsimp only at hSw); go_simp; try with_reducible rfl)
 try simp only [Act.put, List.setIfInBounds_toArray, List.set_cons_zero, List.set_cons_succ]
 refine' wpAnyH_take (i := 1) (oi := ⟨_, _, _, _, _, _⟩) rfl (by kernel_rfl) (by kernel_rfl) (by kernel_rfl) (fun _ _ _ h => h) (Or.inl ⟨by rfl, ?a6⟩) (by assumption) ?b6
 case a6 => (intro w hSw; (try dsimp only at hSw); go_simp; try with_reducible rfl)
 try simp only [Act.put, List.setIfInBounds_toArray, List.set_cons_zero, List.set_cons_succ]
 refine' wpAnyH_take (i := 3) (oi := ⟨_, _, _, _, _, _⟩) rfl (by kernel_rfl) (by kernel_rfl) (by kernel_rfl) (fun _ _ _ h => h) (Or.inl ⟨by rfl, ?a7⟩) (by assumption) ?b7
 case a7 => (intro w hSw; (try dsimp only at hSw); go_simp; try with_reducible rfl)
 try simp only [Act.put, List.setIfInBounds_toArray, List.set_cons_zero, List.set_cons_succ]
 refine' wpAnyH_take (i := 4) (oi := ⟨_, _, _, _, _, _⟩) rfl (by kernel_rfl) (by kernel_rfl) (by kernel_rfl) (fun _ _ _ h => h) (Or.inl ⟨by rfl, ?a8⟩) (by assumption) ?b8
 case a8 => (intro w hSw; (try dsimp only at hSw); go_simp; try with_reducible rfl)
 try simp only [Act.put, List.setIfInBounds_toArray, List.set_cons_zero, List.set_cons_succ]
 refine wpAnyH_ready (rs := [2]) (by kernel_rfl) (by simp) ?_
 refine AllReadyH.cons (o := ⟨_, _, _, _, _, _⟩) rfl (fun K hK => ?_) AllReadyH.nil
 go_simp
 go_at_call 50
 refine (WBytes_calls _ wh _ v5 _ (HW5.out.below hHeld.bel) (by have := HL5.out; omega)).mono ?_
 rintro e wA ⟨vA, rfl, hoA, hbA⟩
 have L1 : Later w5 wA := Later.step hHeld hbA
 have HoA := Lib.hid (own_mono hoA (Nat.le_trans Hb5.out.size hHeld.bel.size))
 clear hoA hbA
 refine hK.out _ _ (L1) (fun hHeldN => ?_)
 clear hK K hHeld
 have hHeld := hHeldN
 clear hHeldN
 try simp only [Act.put, List.setIfInBounds_toArray, List.set_cons_zero, List.set_cons_succ]
 refine wpAnyH_ready (rs := [5]) (by kernel_rfl) (by simp) ?_
 refine AllReadyH.cons (o := ⟨_, _, _, _, _, _⟩) rfl (fun K hK => ?_) AllReadyH.nil
 go_simp
 go_at_call 55
 refine (WLen_calls _ wh _ v5 _ (HW5.out.below hHeld.bel) (by have := HL5.out; omega)).mono ?_
 rintro e wB ⟨rfl, hbB⟩
 have L2 : Later w5 wB := Later.step hHeld hbB
 have HoB := Lib.hid (own_below HoA.out hbB)
 clear hbB
 refine hK.out _ _ (L2) (fun hHeldN => ?_)
 clear hK K hHeld
 have hHeld := hHeldN
 clear hHeldN
 try simp only [Act.put, List.setIfInBounds_toArray, List.set_cons_zero, List.set_cons_succ]
 refine' wpAnyH_take (i := 6) (oi := ⟨_, _, _, _, _, _⟩) rfl (by kernel_rfl) (by kernel_rfl) (by kernel_rfl) (fun _ _ _ h => h) (Or.inl ⟨by rfl, ?a9⟩) (by assumption) ?b9
 case a9 => (intro w hSw; (try dsimp only at hSw); go_simp; try with_reducible rfl)
 try simp only [Act.put, List.setIfInBounds_toArray, List.set_cons_zero, List.set_cons_succ]
 refine' wpAnyH_take (i := 7) (oi := ⟨_, _, _, _, _, _⟩) rfl (by kernel_rfl) (by kernel_rfl) (by kernel_rfl) (fun _ _ _ h => h) (Or.inl ⟨by rfl, ?a10⟩) (by assumption) ?b10
 case a10 => (intro w hSw; (try dsimp only at hSw); go_simp; try with_reducible rfl)
 try simp only [Act.put, List.setIfInBounds_toArray, List.set_cons_zero, List.set_cons_succ]
 refine wpAnyH_done (by kernel_rfl) ?_ _
 refine NoPanic.normal ?_
 go_wp2
 go_ret2
 exact ⟨_, rfl, by rw [packB_length]; exact HoB.out, HL5.out, Hb5.out.trans (L2.bel.mono Hb5.out.size)⟩
theorem off_old {w : World} {B h : Nat} {L : List Int} {v : Value} (H : WrAt w B h L v) (hB : B ≤ h) {g : Nat} (hg : g < B) : g ≠ h ∧ v.ownBlock ≠ some g :=
 ⟨fun e => by omega, fun e => by have := (H.own.lt _ e).1; omega⟩
theorem tokWf_press {ts : List Tok} (h : TokOk ts) : TokWf ts ts.length := fun j hj => by
 obtain ⟨h1, h2⟩ := h j hj
 rcases tokOk_cases h2 with h3 | h3 <;> refine ⟨h1, ?_, ?_⟩ <;> omega
set_option maxHeartbeats 1000000 in set_option maxRecDepth 100000 in
theorem DDyn_calls (A : Option Addr) (len cap : Nat) (bs : List Int) (w : World) (hR : Rd w .u8 A len bs) (hb : ∀ j, j < len → 0 ≤ rd bs j ∧ rd bs j ≤ 255) (hcap : len ≤ cap) (hlen : len ≤ 100000) (hT : Tabs w) (hO : OrdAt w) :
  Calls Tryd.prog 29 #[.slice A len cap] w fun e w' => ∃ v, e = .returned (.tuple #[v, .int .i64 (dynS bs).length]) ∧ Hid (w'.ownsRow w.heap.size 5 1 v (packB (dynS bs)).length (ints .u8 (packB (dynS bs)))) ∧ (dynS bs).length ≤ 8000000 ∧ Below w.heap.size w w' := by
 have HR := Lib.hid hR
 have Hb := Lib.hid hb
 have HT := Lib.hid hT
 have HO := Lib.hid hO
 have Hl := Lib.hid hR.1
 have hto : 4 < w.heap.size ∧ 5 < w.heap.size ∧ 1 < w.heap.size := ⟨World.block_lt_of_cell? _ _ (hT.1 0 (by decide)).1, World.block_lt_of_cell? _ _ (hT.2 0 (by decide)).1, World.block_lt_of_cell? _ _ (hO 0 (by decide))⟩
 have Hto := Lib.hid hto
 have Hok := Lib.hid (tokOk_press hR.1 hb)
 have Hpl := Lib.hid (pressL_length bs)
 clear hR hb hT hto hO
 go_enter Tryd.func29, Tryd.ntmps29
 go_wp2_with fail
 refine (LPress_calls A len cap bs _ HR.out Hb.out (by omega) hcap).mono ?_
 rintro e w1 ⟨vt, rfl, hot, hb1⟩
 obtain ⟨ts, hts⟩ : ∃ ts, ts = pressL bs := ⟨_, rfl⟩
 have hpl := Hpl.out
 rw [Hl.out] at hpl
 rw [← hts] at hot Hok hpl
 have Hts := Lib.hid hts
 have hnt := fun g (e : vt.ownBlock = some g) => (hot.lt g e)
 obtain ⟨At, ct, rfl, htk⟩ := own_toks hot
 have Hnt : Hid (∀ g o, At = some ⟨g, o, none⟩ → g < w1.heap.size) := fun g o e => (hnt g (by rw [e]; rfl)).2
 have Htk := Lib.hid htk
 have Hb1 := Lib.hid hb1
 have hsz1 := hb1.size
 obtain ⟨nt, hnte⟩ : ∃ n, n = ts.length := ⟨_, rfl⟩
 rw [← hnte] at hpl Htk ⊢
 have Hnl := Lib.hid hnte
 clear hot htk hb1 hts hnt hnte
 go_wp2_with fail
 refine (Weights_calls At nt ct ts _ Htk.out (by omega) (by rw [Hnl.out]; exact tokWf_press Hok.out) (fun j hj => (Hok.out j (by rw [← Hnl.out]; exact hj)).2) (HT.out.below Hb1.out)).mono ?_
 rintro e w2 ⟨ga, gb, la, lb, rfl, hoa, hob, Hla, Hlb, hb2⟩
 have hla : la = wtsA ts := wtsA_is (by have := hoa.1; simpa [ints] using this) Hla.out
 have hlb : lb = wtsD ts := wtsD_is (by have := hob.1; simpa [ints] using this) Hlb.out
 rw [hla] at hoa
 rw [hlb] at hob
 obtain ⟨_, _, e1, _, hra⟩ := own_rd hoa
 cases e1
 obtain ⟨_, _, e2, _, hrb⟩ := own_rd hob
 cases e2
 have Hra := Lib.hid hra
 have Hrb := Lib.hid hrb
 have Htk2 := Lib.hid (Htk.out.below hb2)
 have Hb2 := Lib.hid (below_seq Hb1.out (Nat.le_refl _) hb2)
 have hsz2 := hb2.size
 have hsA := wtsA_sum ts
 have hsD := wtsD_sum ts
 rw [← Hnl.out] at hsA hsD
 clear hoa hob hra hrb Hla Hlb hla hlb hb2
 go_wp2_with fail
 refine (Lengths_calls 15 _ 286 286 (wtsA ts) _ (by omega) Hra.out (fun e => by cases e) (by omega) (fun x hx => (wtsA_mem x hx).1) (by omega) (Nat.le_trans (posTo_le _ _) (by rw [wtsA_length]; decide))).mono ?_
 rintro e w3 ⟨v3, rfl, ho3, hb3⟩
 rw [show lensOf 15 (wtsA ts) = lenA ts from rfl] at ho3
 obtain ⟨g3, c3, rfl, _, hg3, hc3, _, _⟩ := own_form ho3 (by decide)
 obtain ⟨_, _, e3, _, hr3⟩ := own_rd ho3
 cases e3
 have Hr3 := Lib.hid hr3
 have Hrb3 := Lib.hid (Hrb.out.below hb3)
 have Htk3 := Lib.hid (Htk2.out.below hb3)
 have Hb3 := Lib.hid (below_seq Hb2.out (Nat.le_refl _) hb3)
 have hsz3 := hb3.size
 clear ho3 hr3 hb3
 go_wp2_with fail
 refine (Lengths_calls 15 _ 30 30 (wtsD ts) _ (by omega) Hrb3.out (fun e => by cases e) (by omega) (fun x hx => (wtsD_mem x hx).1) (by omega) (Nat.le_trans (posTo_le _ _) (by rw [wtsD_length]; decide))).mono ?_
 rintro e w4 ⟨v4, rfl, ho4, hb4⟩
 rw [show lensOf 15 (wtsD ts) = lenD ts from rfl] at ho4
 obtain ⟨g4, c4, rfl, _, hg4, hc4, _, _⟩ := own_form ho4 (by decide)
 obtain ⟨_, _, e4, _, hr4⟩ := own_rd ho4
 cases e4
 have Hr4 := Lib.hid hr4
 have Hr34 := Lib.hid (Hr3.out.below hb4)
 have Htk4 := Lib.hid (Htk3.out.below hb4)
 have Hb4 := Lib.hid (below_seq Hb3.out (Nat.le_refl _) hb4)
 have hsz4 := hb4.size
 clear ho4 hr4 hb4
 go_wp2_with fail
 refine (open_calls _ _ 286 30 c3 c4 (lenA ts) (lenD ts) _ Hr34.out Hr4.out (by decide) (by decide) (by decide) (by decide) (lenA_rng ts) (lenD_rng ts)).mono ?_
 rintro e w5 ⟨kb, gx, gy, c5, c6, rfl, hkb, HX, HY, hnew, hb5⟩
 have Hkb := Lib.hid hkb
 have Hr5A := Lib.hid (Hr34.out.below hb5)
 have Hr5D := Lib.hid (Hr4.out.below hb5)
 have Htk5 := Lib.hid (Htk4.out.below hb5)
 have Hb5 := Lib.hid (below_seq Hb4.out (Nat.le_refl _) hb5)
 have hsz5 := hb5.size
 clear hkb hb5
 go_upto_region 5 with fail
 obtain ⟨W0, hW0⟩ : ∃ W, W = (w5.alloc (.cells #[.slice none 0 0, .int .i64 0] 91)).alloc (.cells #[.pointer (some ⟨w5.heap.size, 0, none⟩)] 93) := ⟨_, rfl⟩
 obtain ⟨wh, hh⟩ : ∃ wh, wh = w5.heap.size := ⟨_, rfl⟩
 rw [← hh] at hW0
 rw [← hh, ← hW0]
 have hb0 : Below wh w5 W0 := by rw [hW0, hh]; exact below_new ((Below.refl _ _).alloc (Nat.le_refl _) _) (Nat.le_refl _) _
 have hs0 : wh + 2 ≤ W0.heap.size := by rw [hW0, hh]; simp
 have hr0 : W0.heap[wh]? = some (.cells #[.slice none 0 0, .int .i64 0] 91 (0, 0)) := by
  rw [hW0, hh, Below.heap_alloc _ _ _ (by simp)]
  exact heap_alloc_new w5 _
 have hr1 : W0.heap[wh + 1]? = some (.cells #[.pointer (some ⟨wh, 0, none⟩)] 93 (0, 0)) := by
  have h9 := heap_alloc_new (w5.alloc (.cells #[.slice none 0 0, .int .i64 0] 91)) (.cells #[.pointer (some ⟨wh, 0, none⟩)] 93)
  rw [hW0]
  simp only [World.size_alloc, ← hh] at h9
  exact h9
 have HWr0 : Hid (WrAt W0 wh wh [] (.slice none 0 0)) := ⟨hr0, World.ownsRow_nil _ _ _ _, fun z hz => by cases hz⟩
 have hkl : kb < wh ∧ gx < wh ∧ gy < wh ∧ g3 < wh ∧ g4 < wh ∧ w1.heap.size ≤ wh ∧ w.heap.size ≤ wh := by rw [hh]; omega
 have Hkl := Lib.hid hkl
 have Hh := Lib.hid hh
 have Hb0 := Lib.hid hb0
 have Hr1 := Lib.hid hr1
 have q := cell_of_row W0 (wh + 1) 0 _ _ (0, 0) hr1
 simp only [List.getElem?_toArray, List.getElem?_cons_zero] at q
 clear hW0 hh hb0 hr0 hr1 hkl
 go_wp2_with fail
 refine (Put_calls wh wh 1 [] _ (some ⟨W0.heap.size, 0, none⟩) 1 1 [1] _ (HWr0.out.below ((Below.refl _ _).alloc (Nat.le_refl _) _)) (Blk.rd (heap_alloc_new W0 _) rfl) (fun j hj => ?_) (by omega) (fun b o e => HWr0.out.fresh e) (by simp) (by simp; omega)).mono ?_
 ·obtain rfl : j = 0 := by omega
  decide
 rintro e w6a ⟨v1, rfl, hw1, hs1⟩
 rw [show lows [1] 1 1 = [1] from by decide, List.nil_append] at hw1
 have HW1 := Lib.hid hw1
 have HT1 := Lib.hid (WStep.after ((Below.refl _ _).alloc (Nat.le_refl _) _) hs1)
 have q1 := cell_of_row w6a (wh + 1) 0 _ _ (0, 0) (HT1.out.blk HWr0.out Hr1.out (by decide) (by omega))
 simp only [List.getElem?_toArray, List.getElem?_cons_zero] at q1
 have hsz6a := HT1.out.fr.size
 clear hw1 hs1 q
 go_wp2_with fail
 refine (Put_calls wh wh 2 _ v1 (some ⟨w6a.heap.size, 0, none⟩) 1 1 [2] _ (HW1.out.below ((Below.refl _ _).alloc (Nat.le_refl _) _)) (Blk.rd (heap_alloc_new w6a _) rfl) (fun j hj => ?_) (by omega) (fun b o e => HW1.out.fresh e) (by decide) (by simp; omega)).mono ?_
 ·obtain rfl : j = 0 := by omega
  decide
 rintro e w6 ⟨v2, rfl, hw2, hs2⟩
 rw [show lows [2] 2 1 = [0, 1] from by decide, show [(1 : Int)] ++ [0, 1] = [1, 0, 1] from rfl] at hw2
 have HW2 := Lib.hid hw2
 have HT2 := Lib.hid (HT1.out.trans (WStep.after ((Below.refl _ _).alloc (Nat.le_refl _) _) hs2))
 have q2 := cell_of_row w6 (wh + 1) 0 _ _ (0, 0) (HT2.out.blk HWr0.out Hr1.out (by decide) (by omega))
 have Hb6 := Lib.hid (Hb0.out.trans (wst_below HT2.out (Nat.le_refl _) (by omega)))
 have hkr := (Hb6.out.block kb Hkl.out.1).trans Hkb.out
 have k0 := cell_of_row w6 kb 0 _ _ (0, 0) hkr
 have k1 := cell_of_row w6 kb 1 _ _ (0, 0) hkr
 simp only [List.getElem?_toArray, List.getElem?_cons_succ, List.getElem?_cons_zero] at q2 k0 k1
 have hsz6 := HT2.out.fr.size
 have L0 : Later w6 w6.drew := (Later.refl w6).drew
 have qL := Later.cell q2
 have kL0 := Later.cell k0
 have kL1 := Later.cell k1
 have H6A := Lib.hid (Hr5A.out.belowB Hb6.out (fun _ b o e => by cases e; exact Hkl.out.2.2.2.1))
 have H6D := Lib.hid (Hr5D.out.belowB Hb6.out (fun _ b o e => by cases e; exact Hkl.out.2.2.2.2.1))
 have HbW6 := Lib.hid (Hb5.out.trans (Hb6.out.mono Hkl.out.2.2.2.2.2.2))
 clear hw2 hs2 q1 q2 k0 k1 hkr
 go_upto_region 7 with fail
 refine wp_region_last (n := 10) (on := ⟨_, _, _, _, _, _⟩) (S := fun W => Later w6 W) (by kernel_rfl) rfl (by kernel_rfl) (L0) (fun hHeld => ?_)
 refine' wpAnyH_take (i := 0) (oi := ⟨_, _, _, _, _, _⟩) rfl (by kernel_rfl) (by kernel_rfl) (by kernel_rfl) (fun _ _ _ h => h) (Or.inl ⟨by rfl, ?a11⟩) (by assumption) ?b11
 case a11 => (intro w hSw; (try dsimp only at hSw); go_simp; try with_reducible rfl)
 try simp only [Act.put, List.setIfInBounds_toArray, List.set_cons_zero, List.set_cons_succ]
 refine' wpAnyH_take (i := 1) (oi := ⟨_, _, _, _, _, _⟩) rfl (by kernel_rfl) (by kernel_rfl) (by kernel_rfl) (fun _ _ _ h => h) (Or.inl ⟨by rfl, ?a12⟩) (by assumption) ?b12
 case a12 => (intro w hSw; (try dsimp only at hSw); go_simp; try with_reducible rfl)
 try simp only [Act.put, List.setIfInBounds_toArray, List.set_cons_zero, List.set_cons_succ]
 refine' wpAnyH_take (i := 2) (oi := ⟨_, _, _, _, _, _⟩) rfl (by kernel_rfl) (by kernel_rfl) (by kernel_rfl) (fun _ _ _ h => h) (Or.inl ⟨by rfl, ?a13⟩) (by assumption) ?b13
 case a13 => (intro w hSw; (try dsimp only at hSw); go_simp; try with_reducible rfl)
 try simp only [Act.put, List.setIfInBounds_toArray, List.set_cons_zero, List.set_cons_succ]
 refine' wpAnyH_take (i := 3) (oi := ⟨_, _, _, _, _, _⟩) rfl (by kernel_rfl) (by kernel_rfl) (by kernel_rfl) (fun _ _ _ h => h) (Or.inl ⟨by rfl, ?a14⟩) (by assumption) ?b14
 case a14 => (intro w hSw; (try dsimp only at hSw); go_simp; try with_reducible rfl)
 try simp only [Act.put, List.setIfInBounds_toArray, List.set_cons_zero, List.set_cons_succ]
 refine' wpAnyH_take (i := 4) (oi := ⟨_, _, _, _, _, _⟩) rfl (by kernel_rfl) (by kernel_rfl) (by kernel_rfl) (fun _ _ _ h => h) (Or.inl ⟨by rfl, ?a15⟩) (by assumption) ?b15
 case a15 => (intro w hSw; (try dsimp only at hSw); go_simp; try with_reducible rfl)
 try simp only [Act.put, List.setIfInBounds_toArray, List.set_cons_zero, List.set_cons_succ]
 refine' wpAnyH_take (i := 5) (oi := ⟨_, _, _, _, _, _⟩) rfl (by kernel_rfl) (by kernel_rfl) (by kernel_rfl) (fun _ _ _ h => h) (Or.inl ⟨by rfl, ?a16⟩) (by assumption) ?b16
 case a16 => (intro w hSw; (try dsimp only at hSw); go_simp; try with_reducible rfl)
 try simp only [Act.put, List.setIfInBounds_toArray, List.set_cons_zero, List.set_cons_succ]
 refine' wpAnyH_take (i := 6) (oi := ⟨_, _, _, _, _, _⟩) rfl (by kernel_rfl) (by kernel_rfl) (by kernel_rfl) (fun _ _ _ h => h) (Or.inl ⟨by rfl, ?a17⟩) (by assumption) ?b17
 case a17 => (intro w hSw; (try dsimp only at hSw); go_simp; try with_reducible rfl)
 try simp only [Act.put, List.setIfInBounds_toArray, List.set_cons_zero, List.set_cons_succ]
 refine' wpAnyH_take (i := 7) (oi := ⟨_, _, _, _, _, _⟩) rfl (by kernel_rfl) (by kernel_rfl) (by kernel_rfl) (fun _ _ _ h => h) (Or.inl ⟨by rfl, ?a18⟩) (by assumption) ?b18
 case a18 => (intro w hSw; (try dsimp only at hSw); go_simp; try with_reducible rfl)
 try simp only [Act.put, List.setIfInBounds_toArray, List.set_cons_zero, List.set_cons_succ]
 refine' wpAnyH_take (i := 8) (oi := ⟨_, _, _, _, _, _⟩) rfl (by kernel_rfl) (by kernel_rfl) (by kernel_rfl) (fun _ _ _ h => h) (Or.inl ⟨by rfl, ?a19⟩) (by assumption) ?b19
 case a19 => (intro w hSw; (try dsimp only at hSw); go_simp; try with_reducible rfl)
 try simp only [Act.put, List.setIfInBounds_toArray, List.set_cons_zero, List.set_cons_succ]
 refine' wpAnyH_take (i := 9) (oi := ⟨_, _, _, _, _, _⟩) rfl (by kernel_rfl) (by kernel_rfl) (by kernel_rfl) (fun _ _ _ h => h) (Or.inl ⟨by rfl, ?a20⟩) (by assumption) ?b20
 case a20 => (intro w hSw; (try dsimp only at hSw); go_simp; try with_reducible rfl)
 try simp only [Act.put, List.setIfInBounds_toArray, List.set_cons_zero, List.set_cons_succ]
 refine wpAnyH_done (by kernel_rfl) ?_ _
 change wpList _ _ _ _ _ _
 clear qL kL0 kL1 hHeld
 go_wp2_with fail
 have hplen := putS_len (lenA ts) (lenD ts) (by rw [lenA_length]; decide) (by rw [lenA_length]; decide) (by rw [lenD_length]; decide) (by rw [lenD_length]; decide) (lenA_rng ts) (lenD_rng ts)
 refine (CPut_calls wh wh [1, 0, 1] v2 (some ⟨g3, 0, none⟩) (some ⟨g4, 0, none⟩) 286 c3 30 c4 (lenA ts) (lenD ts) _ (HW2.out.below L0.bel) (H6A.out.below L0.bel) (H6D.out.below L0.bel) (by decide) (by decide) (by decide) (by decide) hc3 hc4 (fun j _ => lenA_rng ts j) (fun j _ => lenD_rng ts j) (fun j hj => kept_cell L0.bel (kept_cell HbW6.out (HO.out j hj))) (by have := Hto.out; have := Hkl.out; omega) (Nat.le_refl _) (by have := L0.bel.size; omega) (by decide)).mono ?_
 rintro e w7 ⟨v7, rfl, hw7, hs7⟩
 have HW7 := Lib.hid hw7
 have HT7 := Lib.hid (HT2.out.trans (WStep.after L0.bel hs7))
 have q7 := cell_of_row w7 (wh + 1) 0 _ _ (0, 0) (HT7.out.blk HWr0.out Hr1.out (by decide) (by omega))
 simp only [List.getElem?_toArray, List.getElem?_cons_zero] at q7
 have Hb7 := Lib.hid (Hb0.out.trans (wst_below HT7.out (Nat.le_refl _) (by omega)))
 have HbW7 := Lib.hid (Hb5.out.trans (Hb7.out.mono Hkl.out.2.2.2.2.2.2))
 have hsz7 := HT7.out.fr.size
 have hbk : Book w7 wh v7 kb (some ⟨g3, 0, none⟩) (some ⟨g4, 0, none⟩) (some ⟨gx, 0, none⟩) (some ⟨gy, 0, none⟩) 286 30 c3 c4 c5 c6 (lenA ts) (lenD ts) :=
  ⟨(Hb7.out.block kb Hkl.out.1).trans Hkb.out, Hr5A.out.belowB Hb7.out (fun _ b o e => by cases e; exact Hkl.out.2.2.2.1), Hr5D.out.belowB Hb7.out (fun _ b o e => by cases e; exact Hkl.out.2.2.2.2.1), HX.out.belowB Hb7.out (fun _ b o e => by cases e; exact Hkl.out.2.1), HY.out.belowB Hb7.out (fun _ b o e => by cases e; exact Hkl.out.2.2.1),
   fun b o e => by cases e; exact off_old HW7.out (Nat.le_refl _) Hkl.out.2.2.2.1, fun b o e => by cases e; exact off_old HW7.out (Nat.le_refl _) Hkl.out.2.2.2.2.1, fun b o e => by cases e; exact off_old HW7.out (Nat.le_refl _) Hkl.out.2.1, fun b o e => by cases e; exact off_old HW7.out (Nat.le_refl _) Hkl.out.2.2.1, off_old HW7.out (Nat.le_refl _) Hkl.out.1⟩
 have Hbk := Lib.hid hbk
 have Hpn := Lib.hid hplen
 have htk7 : Toks w7 At nt ts := by
  obtain ⟨h1, h2⟩ := Htk5.out
  refine ⟨h1, fun hn => ?_⟩
  obtain ⟨b, o, e, hc⟩ := h2 hn
  have hlt : b < wh := Nat.lt_of_lt_of_le (Hnt.out b o e) Hkl.out.2.2.2.2.2.1
  exact ⟨b, o, e, fun j hj => ⟨(Hb7.out.cell (p := ⟨b, o + j * 3, none⟩) hlt).trans (hc j hj).1, (Hb7.out.cell (p := ⟨b, o + j * 3 + 1, none⟩) hlt).trans (hc j hj).2.1, (Hb7.out.cell (p := ⟨b, o + j * 3 + 2, none⟩) hlt).trans (hc j hj).2.2⟩⟩
 have Htk7 := Lib.hid htk7
 clear hw7 hs7 L0 hbk hplen htk7
 go_wp2_with fail
 refine (tokens_calls wh wh kb 286 30 c3 c4 c5 c6 nt ct ([1, 0, 1] ++ putS (lenA ts) (lenD ts)) v7 _ _ _ _ At (lenA ts) (lenD ts) ts _ HW7.out Hbk.out Htk7.out (fun b o e => off_old HW7.out (Nat.le_refl _) (Nat.lt_of_lt_of_le (Hnt.out b o e) Hkl.out.2.2.2.2.2.1)) Hok.out (HT.out.below HbW7.out) (by have := Hto.out; have := Hkl.out; omega) (Nat.le_refl _) (by decide) (by decide) (by decide) (by decide) (lenA_rng ts) (lenD_rng ts) (by omega) (by rw [List.length_append]; have := Hpn.out; show 3 + _ ≤ _; omega) (by omega)).mono ?_
 rintro e w8 ⟨v8, rfl, hw8, hs8⟩
 have e8 : [1, 0, 1] ++ putS (lenA ts) (lenD ts) ++ toksS (lenA ts) (lenD ts) ts = dynS bs := by unfold dynS; rw [← Hts.out, List.append_assoc]
 rw [e8] at hw8
 have HW5 := Lib.hid hw8
 have HT8 := Lib.hid (HT7.out.trans hs8)
 have q8 := cell_of_row w8 (wh + 1) 0 _ _ (0, 0) (HT8.out.blk HWr0.out Hr1.out (by decide) (by omega))
 simp only [List.getElem?_toArray, List.getElem?_cons_zero] at q8
 have qL := Later.cell q8
 have L0 : Later w8 w8.drew := (Later.refl w8).drew
 have hlen5 : (dynS bs).length ≤ 8000000 := by
  rw [← e8, List.length_append, List.length_append]
  have h1 := toksTo_len (lenA_rng ts) (lenD_rng ts) Hok.out ts.length (Nat.le_refl _)
  rw [toksTo_all] at h1
  have h2 := symCode_len (lenA_rng ts) 256
  have h3 := Hpn.out
  have h4 := Hnl.out
  unfold toksS
  rw [List.length_append]
  show 3 + _ + (_ + _) ≤ _
  omega
 have HL5 := Lib.hid hlen5
 have hsz8 := HT8.out.fr.size
 have Hb8 := Lib.hid (Hb5.out.trans ((Hb0.out.trans (wst_below HT8.out (Nat.le_refl _) (by omega))).mono Hkl.out.2.2.2.2.2.2))
 clear hw8 hs8 q8 e8 hlen5 HX HY hnew
 go_upto_region 9 with fail
 refine wp_region_noPanic ?_
 refine wp_region_held_drew (S := fun W => Later w8 W) (by kernel_rfl) (L0) (fun hHeld => ?_)
 refine' wpAnyH_take (i := 0) (oi := ⟨_, _, _, _, _, _⟩) rfl (by kernel_rfl) (by kernel_rfl) (by kernel_rfl) (fun _ _ _ h => h) (Or.inl ⟨by rfl, ?a21⟩) (by assumption) ?b21
 case a21 => (intro w hSw; (try dsimp only at hSw); go_simp; try with_reducible rfl)
 try simp only [Act.put, List.setIfInBounds_toArray, List.set_cons_zero, List.set_cons_succ]
 refine' wpAnyH_take (i := 1) (oi := ⟨_, _, _, _, _, _⟩) rfl (by kernel_rfl) (by kernel_rfl) (by kernel_rfl) (fun _ _ _ h => h) (Or.inl ⟨by rfl, ?a22⟩) (by assumption) ?b22
 case a22 => (intro w hSw; (try dsimp only at hSw); go_simp; try with_reducible rfl)
 try simp only [Act.put, List.setIfInBounds_toArray, List.set_cons_zero, List.set_cons_succ]
 refine' wpAnyH_take (i := 3) (oi := ⟨_, _, _, _, _, _⟩) rfl (by kernel_rfl) (by kernel_rfl) (by kernel_rfl) (fun _ _ _ h => h) (Or.inl ⟨by rfl, ?a23⟩) (by assumption) ?b23
 case a23 => (intro w hSw; (try dsimp only at hSw); go_simp; try with_reducible rfl)
 try simp only [Act.put, List.setIfInBounds_toArray, List.set_cons_zero, List.set_cons_succ]
 refine' wpAnyH_take (i := 4) (oi := ⟨_, _, _, _, _, _⟩) rfl (by kernel_rfl) (by kernel_rfl) (by kernel_rfl) (fun _ _ _ h => h) (Or.inl ⟨by rfl, ?a24⟩) (by assumption) ?b24
 case a24 => (intro w hSw; (try dsimp only at hSw); go_simp; try with_reducible rfl)
 try simp only [Act.put, List.setIfInBounds_toArray, List.set_cons_zero, List.set_cons_succ]
 refine wpAnyH_ready (rs := [2]) (by kernel_rfl) (by simp) ?_
 refine AllReadyH.cons (o := ⟨_, _, _, _, _, _⟩) rfl (fun K hK => ?_) AllReadyH.nil
 go_simp
 go_at_call 50
 refine (WBytes_calls _ wh _ v8 _ (HW5.out.below hHeld.bel) (by have := HL5.out; omega)).mono ?_
 rintro e wA ⟨vA, rfl, hoA, hbA⟩
 have L1 : Later w8 wA := Later.step hHeld hbA
 have HoA := Lib.hid (own_mono hoA (Nat.le_trans Hb8.out.size hHeld.bel.size))
 clear hoA hbA
 refine hK.out _ _ (L1) (fun hHeldN => ?_)
 clear hK K hHeld
 have hHeld := hHeldN
 clear hHeldN
 try simp only [Act.put, List.setIfInBounds_toArray, List.set_cons_zero, List.set_cons_succ]
 refine wpAnyH_ready (rs := [5]) (by kernel_rfl) (by simp) ?_
 refine AllReadyH.cons (o := ⟨_, _, _, _, _, _⟩) rfl (fun K hK => ?_) AllReadyH.nil
 go_simp
 go_at_call 55
 refine (WLen_calls _ wh _ v8 _ (HW5.out.below hHeld.bel) (by have := HL5.out; omega)).mono ?_
 rintro e wB ⟨rfl, hbB⟩
 have L2 : Later w8 wB := Later.step hHeld hbB
 have HoB := Lib.hid (own_below HoA.out hbB)
 clear hbB
 refine hK.out _ _ (L2) (fun hHeldN => ?_)
 clear hK K hHeld
 have hHeld := hHeldN
 clear hHeldN
 try simp only [Act.put, List.setIfInBounds_toArray, List.set_cons_zero, List.set_cons_succ]
 refine' wpAnyH_take (i := 6) (oi := ⟨_, _, _, _, _, _⟩) rfl (by kernel_rfl) (by kernel_rfl) (by kernel_rfl) (fun _ _ _ h => h) (Or.inl ⟨by rfl, ?a25⟩) (by assumption) ?b25
 case a25 => (intro w hSw; (try dsimp only at hSw); go_simp; try with_reducible rfl)
 try simp only [Act.put, List.setIfInBounds_toArray, List.set_cons_zero, List.set_cons_succ]
 refine' wpAnyH_take (i := 7) (oi := ⟨_, _, _, _, _, _⟩) rfl (by kernel_rfl) (by kernel_rfl) (by kernel_rfl) (fun _ _ _ h => h) (Or.inl ⟨by rfl, ?a26⟩) (by assumption) ?b26
 case a26 => (intro w hSw; (try dsimp only at hSw); go_simp; try with_reducible rfl)
 try simp only [Act.put, List.setIfInBounds_toArray, List.set_cons_zero, List.set_cons_succ]
 refine wpAnyH_done (by kernel_rfl) ?_ _
 refine NoPanic.normal ?_
 go_wp2
 go_ret2
 exact ⟨_, rfl, by rw [packB_length]; exact HoB.out, HL5.out, Hb8.out.trans (L2.bel.mono Hb8.out.size)⟩
end Go.Proofs.YtendohnkhbgfbaaDoor
namespace Go.Proofs.YtendohnkhbgfbaaDoor
open Go.RowKit

def wayO (bs : List Int) : Nat → List Int × Nat
 | 0 => (storedB bs, 8 * (storedB bs).length)
 | 1 => if (fixedS bs).length < 8 * (storedB bs).length then (packB (fixedS bs), (fixedS bs).length) else (storedB bs, 8 * (storedB bs).length)
 | k + 2 => if (dynS bs).length < (wayO bs (k + 1)).2 then (packB (dynS bs), (dynS bs).length) else wayO bs (k + 1)
theorem wayO_all (bs : List Int) : (wayO bs 2).1 = pressB bs := by
 have e1 : wayO bs 1 = if (fixedS bs).length < 8 * (storedB bs).length then (packB (fixedS bs), (fixedS bs).length) else (storedB bs, 8 * (storedB bs).length) := rfl
 have e2 : wayO bs 2 = if (dynS bs).length < (wayO bs 1).2 then (packB (dynS bs), (dynS bs).length) else wayO bs 1 := rfl
 rw [e2, e1]
 unfold pressB
 by_cases h1 : (fixedS bs).length < 8 * (storedB bs).length
 ·rw [if_pos h1, if_pos h1]
  by_cases h2 : (dynS bs).length < (fixedS bs).length
  ·rw [if_pos h2, if_pos h2]
  ·rw [if_neg h2, if_neg h2]
 ·rw [if_neg h1, if_neg h1]
  by_cases h2 : (dynS bs).length < 8 * (storedB bs).length
  ·rw [if_pos h2, if_pos h2]
  ·rw [if_neg h2, if_neg h2]
theorem storedB_le (f : Nat) : ∀ b : List Int, (stoB f b).length ≤ b.length + 5 * f := by
 induction f with
 | zero => intro b; exact Nat.zero_le _
 | succ f ih =>
  intro b
  unfold stoB
  split
  ·simp only [List.length_append, List.length_cons, List.length_nil]; omega
  ·have := ih (b.drop 65535)
   simp only [List.length_append, List.length_cons, List.length_nil, List.length_take]
   rw [List.length_drop] at this
   omega
set_option maxHeartbeats 1000000 in set_option maxRecDepth 100000 in
theorem DPress_calls (A : Option Addr) (len cap : Nat) (bs : List Int) (w : World) (hR : Rd w .u8 A len bs) (hb : ∀ j, j < len → 0 ≤ rd bs j ∧ rd bs j ≤ 255) (hA : A = none → len = 0 ∧ cap = 0) (hcap : len ≤ cap) (hlen : len ≤ 100000) (hT : Tabs w) (hO : OrdAt w) :
  Calls Tryd.prog 18 #[.slice A len cap] w fun e w' => ∃ v, e = .returned v ∧ w'.ownsRow w.heap.size 5 1 v (pressB bs).length (ints .u8 (pressB bs)) ∧ Below w.heap.size w w' := by
 have HR := Lib.hid hR
 have Hb := Lib.hid hb
 have HA := Lib.hid hA
 have HT := Lib.hid hT
 have HO := Lib.hid hO
 have Hl := Lib.hid hR.1
 have Hbm : Hid (∀ x ∈ bs, 0 ≤ x ∧ x ≤ 255) := fun x hx => by
  obtain ⟨j, hj, rfl⟩ := List.mem_iff_getElem.1 hx
  have := hb j (by rw [← hR.1]; exact hj)
  rwa [rd_getElem hj] at this
 have hsl : (storedB bs).length ≤ 700000 := by
  have := storedB_le (bs.length + 1) bs
  unfold storedB
  have h1 := hR.1
  omega
 clear hR hb hA hT hO
 go_enter Tryd.func18, Tryd.ntmps18
 go_wp2_with fail
 refine (Stored_calls A len cap bs _ HR.out Hbm.out HA.out hcap (by omega)).mono ?_
 rintro e w1 ⟨v1, rfl, ho1, hb1⟩
 obtain ⟨A1, c1, rfl⟩ := own_slice ho1
 have Ho1 := Lib.hid ho1
 have Hb1 := Lib.hid hb1
 have hsz1 := hb1.size
 obtain ⟨n0, hn0⟩ : ∃ n, n = (storedB bs).length := ⟨_, rfl⟩
 rw [← hn0] at Ho1 hsl ⊢
 have Hn0 := Lib.hid hn0
 clear ho1 hb1 hn0
 have f0 : (w1.alloc (.cells #[.func (.func 28) #[] #[], .func (.func 29) #[] #[]] 62)).heap[w1.heap.size]? = some _ := heap_alloc_new w1 _
 obtain ⟨W2, hW2⟩ : ∃ W, W = w1.alloc (.cells #[.func (.func 28) #[] #[], .func (.func 29) #[] #[]] 62) := ⟨_, rfl⟩
 obtain ⟨fb, hfb⟩ : ∃ q, q = w1.heap.size := ⟨_, rfl⟩
 rw [← hW2, ← hfb] at f0
 have hb2 : Below w1.heap.size w1 W2 := by rw [hW2]; exact (Below.refl _ _).alloc (Nat.le_refl _) _
 have Hf0 := Lib.hid f0
 have Ho2 := Lib.hid (own_below Ho1.out hb2)
 have Hb2 := Lib.hid (below_seq Hb1.out (Nat.le_refl _) hb2)
 have hsz2 := hb2.size
 have HW2 := Lib.hid hW2
 have Hfb := Lib.hid hfb
 clear f0 hb2 hW2 hfb
 go_wp2
 rw [← HW2.out, ← Hfb.out]
 go_loopw [3, 4, 16] (fun v n i wr => ∃ (k : Nat) (ak : Option Addr) (ck : Nat), k ≤ 2 ∧ i = .int .i64 k ∧ v = .slice ak (wayO bs k).1.length ck ∧ n = .int .i64 (wayO bs k).2 ∧ (wayO bs k).2 ≤ 8000000 ∧ Hid (wr.ownsRow w.heap.size 5 1 v (wayO bs k).1.length (ints .u8 (wayO bs k).1)) ∧ Hid (Below W2.heap.size W2 wr)) (fun _ _ i _ => 2 - (intOf i).toNat)
 case atStart => exact ⟨0, A1, c1, by omega, rfl, by rw [Hn0.out]; rfl, by rw [Hn0.out]; simp [wayO], by show 8 * (storedB bs).length ≤ _; rw [← Hn0.out]; omega, by show W2.ownsRow _ _ _ _ (storedB bs).length _; rw [← Hn0.out]; exact Ho2.out, Below.refl _ _⟩
 case round =>
  obtain ⟨k, ak, ck, hk, rfl, rfl, rfl, hn8, HO', HB⟩ := hrel
  rcases (show k = 0 ∨ k = 1 ∨ k = 2 by omega) with rfl | rfl | rfl
  ·skip
   have hsucc : wayO bs 1 = if (fixedS bs).length < (wayO bs 0).2 then (packB (fixedS bs), (fixedS bs).length) else wayO bs 0 := rfl
   obtain ⟨P, hP⟩ : ∃ P, P = wayO bs 0 := ⟨_, rfl⟩
   rw [← hP] at hsucc hn8 HO' ⊢
   have Hsucc := Lib.hid hsucc
   have z := cell_of_row wr fb 0 _ _ (0, 0) ((HB.out.block fb (Array.getElem?_eq_some_iff.1 Hf0.out).1).trans Hf0.out)
   simp only [List.getElem?_toArray, List.getElem?_cons_zero] at z
   have HBw := Lib.hid (below_seq Hb2.out (Nat.le_refl _) HB.out)
   obtain ⟨m, hm⟩ : ∃ m, m = P.2 := ⟨_, rfl⟩
   obtain ⟨l, hl⟩ : ∃ l, l = P.1.length := ⟨_, rfl⟩
   rw [← hm] at hn8 ⊢
   rw [← hl] at HO' ⊢
   have Hm := Lib.hid hm
   have Hll := Lib.hid hl
   clear hsucc hP hm hl
   go_wp2_with fail
   refine (DFixed_calls A len cap bs _ (HR.out.below HBw.out) Hb.out hcap hlen (HT.out.below HBw.out)).mono ?_
   rintro e w3 ⟨v3, rfl, Ho3, hl3, hb3⟩
   have HO3 := Lib.hid (own_below HO'.out hb3)
   have Ho3' := Lib.hid (own_mono Ho3.out HBw.out.size)
   have HB3 := Lib.hid (below_seq HB.out (Nat.le_refl _) hb3)
   obtain ⟨A3, c3, rfl⟩ := own_slice Ho3'.out
   clear hb3 z Ho3
   have hs := Hsucc.out
   rw [← Hm.out] at hs
   by_cases hlt : (fixedS bs).length < m
   ·rw [if_pos hlt] at hs
    have Hs := Lib.hid hs
    clear hs
    go_wp2
    go_roundw
    case rel => exact ⟨1, A3, c3, by omega, rfl, by rw [Hs.out], by rw [Hs.out], by rw [Hs.out]; exact hl3, by rw [Hs.out]; exact Ho3'.out, HB3.out⟩
    case measure => simp [intOf]
   ·rw [if_neg hlt] at hs
    have Hs := Lib.hid hs
    clear hs
    go_wp2
    go_roundw
    case rel => exact ⟨1, ak, ck, by omega, rfl, by rw [Hs.out, Hll.out], by rw [Hs.out, Hm.out], by rw [Hs.out, ← Hm.out]; exact hn8, by rw [Hs.out, ← Hll.out]; exact HO3.out, HB3.out⟩
    case measure => simp [intOf]
  ·skip
   have hsucc : wayO bs 2 = if (dynS bs).length < (wayO bs 1).2 then (packB (dynS bs), (dynS bs).length) else wayO bs 1 := rfl
   obtain ⟨P, hP⟩ : ∃ P, P = wayO bs 1 := ⟨_, rfl⟩
   rw [← hP] at hsucc hn8 HO' ⊢
   have Hsucc := Lib.hid hsucc
   have z := cell_of_row wr fb 1 _ _ (0, 0) ((HB.out.block fb (Array.getElem?_eq_some_iff.1 Hf0.out).1).trans Hf0.out)
   simp only [List.getElem?_toArray, List.getElem?_cons_succ, List.getElem?_cons_zero] at z
   have HBw := Lib.hid (below_seq Hb2.out (Nat.le_refl _) HB.out)
   obtain ⟨m, hm⟩ : ∃ m, m = P.2 := ⟨_, rfl⟩
   obtain ⟨l, hl⟩ : ∃ l, l = P.1.length := ⟨_, rfl⟩
   rw [← hm] at hn8 ⊢
   rw [← hl] at HO' ⊢
   have Hm := Lib.hid hm
   have Hll := Lib.hid hl
   clear hsucc hP hm hl
   go_wp2_with fail
   refine (DDyn_calls A len cap bs _ (HR.out.below HBw.out) Hb.out hcap hlen (HT.out.below HBw.out) (fun j hj => kept_cell HBw.out (HO.out j hj))).mono ?_
   rintro e w3 ⟨v3, rfl, Ho3, hl3, hb3⟩
   have HO3 := Lib.hid (own_below HO'.out hb3)
   have Ho3' := Lib.hid (own_mono Ho3.out HBw.out.size)
   have HB3 := Lib.hid (below_seq HB.out (Nat.le_refl _) hb3)
   obtain ⟨A3, c3, rfl⟩ := own_slice Ho3'.out
   clear hb3 z Ho3
   have hs := Hsucc.out
   rw [← Hm.out] at hs
   by_cases hlt : (dynS bs).length < m
   ·rw [if_pos hlt] at hs
    have Hs := Lib.hid hs
    clear hs
    go_wp2
    go_roundw
    case rel => exact ⟨2, A3, c3, by omega, rfl, by rw [Hs.out], by rw [Hs.out], by rw [Hs.out]; exact hl3, by rw [Hs.out]; exact Ho3'.out, HB3.out⟩
    case measure => simp [intOf]
   ·rw [if_neg hlt] at hs
    have Hs := Lib.hid hs
    clear hs
    go_wp2
    go_roundw
    case rel => exact ⟨2, ak, ck, by omega, rfl, by rw [Hs.out, Hll.out], by rw [Hs.out, Hm.out], by rw [Hs.out, ← Hm.out]; exact hn8, by rw [Hs.out, ← Hll.out]; exact HO3.out, HB3.out⟩
    case measure => simp [intOf]
  ·rw [wayO_all] at HO' ⊢
   go_wp2
   go_ret
   exact ⟨_, rfl, HO'.out, Hb2.out.trans (HB.out.mono Hb2.out.size)⟩
end Go.Proofs.YtendohnkhbgfbaaDoor
namespace Go.Proofs.YtendohnkhbgfbaaDoor
open Go.RowKit

theorem conv_rd9 {W : World} {A : Option Addr} {n c : Nat} {ns : List Int} (h : Rd W .u8 A n ns) (hn : 0 < n) : (convert 22 9 (.slice A n c)).run Tryd.prog W = .ok (.string (strOfNums ns)) W := by
 obtain ⟨b, o, rfl, hc⟩ := h.2 hn
 exact run_convert_bytes_arg W _ 5 Tryd.underlying22 Tryd.underlying5 b o n c ns h.1 hc _ Tryd.underlying9
theorem conv_later {w0 : World} {A : Option Addr} {n c : Nat} {ns : List Int} (h : Rd w0 .u8 A n ns) (hn : 0 < n) : ∀ W, Later w0 W → (convert 22 9 (.slice A n c)).run Tryd.prog W = .ok (.string (strOfNums ns)) W :=
 fun _ hL => conv_rd9 (h.below hL.bel) hn
theorem rd_nil (w : World) (k : IntKind) : Rd w k none 0 [] := ⟨rfl, fun h => by omega⟩
theorem all_of_rd {b : List Int} (h : ∀ j, j < b.length → 0 ≤ rd b j ∧ rd b j ≤ 255) : ∀ x ∈ b, 0 ≤ x ∧ x ≤ 255 := by
 intro x hx
 obtain ⟨j, hj, rfl⟩ := List.getElem_of_mem hx
 have := h j hj
 rwa [rd_getElem hj] at this
theorem packB_small {L : List Int} (h : Bit01 L) : ∀ j, j < (packB L).length → 0 ≤ rd (packB L) j ∧ rd (packB L) j ≤ 255 := fun j hj => packB_byte h j (by rwa [packB_length] at hj)
theorem storedB_byte {b : List Int} (h : ∀ x ∈ b, 0 ≤ x ∧ x ≤ 255) : ∀ j, j < (storedB b).length → 0 ≤ rd (storedB b) j ∧ rd (storedB b) j ≤ 255 := by
 unfold storedB
 rw [← stoBits_pack _ h]
 exact packB_small (stoBits_bit _ _)
theorem fixedS_bits (b : List Int) : Bit01 (fixedS b) := by
 have ht : Bit01 (toksS fixA fixB (pressL b)) := by
  unfold toksS
  rw [← toksTo_all]
  exact (toksTo_bit _ _ _ _).app (symCode_bit _ _)
 have h3 : Bit01 [1, 1, 0] := by intro x hx; revert x; decide
 exact h3.app ht
theorem dynS_bits (b : List Int) : Bit01 (dynS b) := by
 have hl : ∀ (vs : List Int) (n m : Nat), Bit01 (lows vs n m) := by
  intro vs n m x hx
  obtain ⟨j, _, h⟩ := List.mem_flatMap.1 hx
  exact lowOf_bit _ _ x h
 have hi : ∀ (ls : List Int) (its : List Item) (k : Nat), Bit01 (bitsIt ls its k) := by
  intro ls its k x hx
  obtain ⟨j, _, h⟩ := List.mem_flatMap.1 hx
  exact ((hiOf_bit _ _).app (lowOf_bit _ _)) x h
 have hp : Bit01 (putS (lenA (pressL b)) (lenD (pressL b))) := ((((lowOf_bit _ _).app (lowOf_bit _ _)).app (lowOf_bit _ _)).app (hl _ _ _)).app (hi _ _ _)
 have ht : Bit01 (toksS (lenA (pressL b)) (lenD (pressL b)) (pressL b)) := by
  unfold toksS
  rw [← toksTo_all]
  exact (toksTo_bit _ _ _ _).app (symCode_bit _ _)
 have h3 : Bit01 [1, 0, 1] := by intro x hx; revert x; decide
 exact h3.app (hp.app ht)
theorem fixedB_byte (b : List Int) : ∀ j, j < (packB (fixedS b)).length → 0 ≤ rd (packB (fixedS b)) j ∧ rd (packB (fixedS b)) j ≤ 255 := packB_small (fixedS_bits b)
theorem dynB_byte (b : List Int) : ∀ j, j < (packB (dynS b)).length → 0 ≤ rd (packB (dynS b)) j ∧ rd (packB (dynS b)) j ≤ 255 := packB_small (dynS_bits b)
theorem pressB_byte {b : List Int} (h : ∀ x ∈ b, 0 ≤ x ∧ x ≤ 255) : ∀ j, j < (pressB b).length → 0 ≤ rd (pressB b) j ∧ rd (pressB b) j ≤ 255 := by
 rcases pressB_cases b with e | e | e <;> rw [e]
 ·exact storedB_byte h
 ·exact fixedB_byte b
 ·exact dynB_byte b
theorem rd_bytes {l : List Int} (h : ∀ x ∈ l, 0 ≤ x ∧ x ≤ 255) : ∀ j, j < l.length → 0 ≤ rd l j ∧ rd l j ≤ 255 := fun j hj => by rw [rd_getElem hj]; exact h _ (List.getElem_mem hj)
theorem isRow_nil {k : IntKind} {w : World} {a : Option Addr} {len cap : Nat} {zs : List Int} (h : IsRow k w a len cap zs) : a = none → len = 0 ∧ cap = 0 := by
 rcases h with ⟨_, h1, h2, _⟩ | ⟨x, rfl, _⟩
 ·exact fun _ => ⟨h1, h2⟩
 ·intro e; cases e
theorem isRow_le {k : IntKind} {w : World} {a : Option Addr} {len cap : Nat} {zs : List Int} (h : IsRow k w a len cap zs) : len ≤ cap := by
 rcases h with ⟨_, h1, h2, _⟩ | ⟨x, _, h, _⟩
 ·omega
 ·exact h
theorem strOfNums_app (a b : List Int) : strOfNums (a ++ b) = strOfNums a ++ strOfNums b := by
 apply ByteArray.ext
 simp [strOfNums]
end Go.Proofs.YtendohnkhbgfbaaDoor
