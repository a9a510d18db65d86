/-
  Texts joined into one file: ChunkN, Laid, Laid22, AwC, RefCh.
-/
import Derived.Test.YtendohnkhbgfbaaDoorJRefShaD4
import Derived.Test.YtendohnkhbgfbaaDoorJGetW1
import Derived.Deep.RegionHeld3
import Derived.Test.YtendohnkhbgfbaaDoorJBytZ3
import Derived.ProofKit
import Derived.LaidMore
import Derived.OpenShut
import Derived.MakeChecks
import Derived.Test.YtendohnkhbgfbaaDoorJBytZ16
import Derived.Test.YtendohnkhbgfbaaDoorJRefShaD1
/-
  The walk of chunk's Next. Printed by gen_chnext.py.
-/
namespace Go.Proofs.YtendohnkhbgfbaaDoor
open Go.RowKit

theorem rd_mem {l : List Int} {j : Nat} (h : j < l.length) : rd l j ∈ l := by rw [rd_getElem h]; exact List.getElem_mem h
theorem rd_drop_c {w : World} {b0 o0 n : Nat} {b : List Int} (h : Rd w .u8 (some ⟨b0, o0, none⟩) n b) {k : Nat} (hk : k ≤ n) (hn : 0 < n) : Rd w .u8 (some ⟨b0, o0 + k, none⟩) (n - k) (b.drop k) := rd_drop_w h hn hk
theorem rd_take_c {w : World} {A : Option Addr} {n : Nat} {b : List Int} (h : Rd w .u8 A n b) {k : Nat} (hk : k ≤ n) : Rd w .u8 A k (b.take k) := by
  refine ⟨by rw [List.length_take, h.1]; omega, fun h0 => ?_⟩
  obtain ⟨b1, o1, e, hc⟩ := h.2 (by omega)
  exact ⟨b1, o1, e, fun j hj => by rw [take_rdl hj]; exact hc j (by omega)⟩
theorem rd_emp (w : World) (A : Option Addr) : Rd w .u8 A 0 [] := ⟨rfl, fun h => by omega⟩
theorem rd_nul {v : Nat} (h : v = 0) (w : World) (A : Option Addr) (l : List Int) : Rd w .u8 A v (l.take v) := by subst h; exact ⟨by simp, fun h => by omega⟩
theorem strOf_sum {l m : List Int} (hl : ∀ x ∈ l, 0 ≤ x ∧ x ≤ 255) (hm : ∀ x ∈ m, 0 ≤ x ∧ x ≤ 255) (h : strOfNums l = strOfNums m) : l = m := by
  have h1 : ∀ l : List Int, (∀ x ∈ l, 0 ≤ x ∧ x ≤ 255) → nums (strOfNums l) = l := by
    intro l h
    unfold nums strOfNums
    show ((l.map fun n => UInt8.ofNat n.toNat).toArray.toList).map _ = l
    rw [List.toList_toArray, List.map_map]
    conv => rhs; rw [← List.map_id l]
    refine List.map_congr_left (fun x hx => ?_)
    have := h x hx
    show ((UInt8.ofNat x.toNat).toNat : Int) = x
    rw [UInt8.toNat_ofNat']
    omega
  rw [← h1 l hl, h, h1 m hm]
theorem wordB_byte (x : W32) : ∀ y ∈ wordB x, 0 ≤ y ∧ y ≤ 255 := by
  intro y hy
  have := x.isLt
  simp only [wordB, List.mem_cons, List.not_mem_nil, or_false] at hy
  rcases hy with h | h | h | h <;> subst h <;> omega
theorem shaS_byte (l : List Int) : ∀ y ∈ shaS l, 0 ≤ y ∧ y ≤ 255 := by
  intro y hy
  unfold shaS S8.bytes at hy
  simp only [List.mem_append] at hy
  rcases hy with ((((((h | h) | h) | h) | h) | h) | h) | h <;> exact wordB_byte _ y h
theorem sumB_byte (k : Int) (l : List Int) : ∀ y ∈ sumB k l, 0 ≤ y ∧ y ≤ 255 := fun y hy => shaS_byte _ y (List.mem_of_mem_take hy)
set_option maxHeartbeats 1000000 in
set_option maxRecDepth 100000 in
theorem ChNext_calls (A : Option Addr) (n c : Nat) (b : List Int) (w : World) (hR : Rd w .u8 A n b) (hA : A = none → n = 0 ∧ c = 0) (hc : n ≤ c) (hb : ∀ x ∈ b, 0 ≤ x ∧ x ≤ 255) (hn : n ≤ 1000000) (hK : KeysAt w) (hBg : BeginAt w) (hM : MagicAt w) :
    Calls Tryd.prog 13 #[.slice A n c] w fun e w' => ∃ (K : Int) (A' : Option Addr) (n' c' : Nat) (C : List Int) (M : Nat) (E : Int), e = .returned (.tuple #[.agg #[.int .i64 K, .slice A' n' c'], .int .i64 M, .int .i64 E]) ∧ Hid (IsNext b K C M E) ∧ Hid (w'.ownsRow w.heap.size 5 1 (.slice A' n' c') n' (ints .u8 C)) ∧ Below w.heap.size w w' := by
  have HR := Lib.hid hR
  have HA := Lib.hid hA
  have Hb := Lib.hid hb
  have HK := Lib.hid hK
  have HBg := Lib.hid hBg
  have HM := Lib.hid hM
  have Hl := Lib.hid hR.1
  clear hR hA hb hK hBg hM
  go_enter Tryd.func13, Tryd.ntmps13
  obtain ⟨g, hg⟩ : ∃ g, g = w.heap.size := ⟨_, rfl⟩
  have HG := Lib.hid hg
  go_upto_region 1 with fail
  obtain ⟨w0, hw0⟩ : ∃ X, X = w.alloc (.cells #[.int .i64 0, .slice none 0 0] 26) := ⟨_, rfl⟩
  rw [← hw0, ← hg]
  have hb0 : Below w.heap.size w w0 := by rw [hw0]; exact (Below.refl _ _).alloc (Nat.le_refl _) _
  have hrow0 : w0.heap[g]? = some (.cells #[.int .i64 0, .slice none 0 0] 26 (0, 0)) := by rw [hw0, hg]; exact heap_alloc_new w _
  have HB0 := Lib.hid hb0
  have HR0 := Lib.hid hrow0
  clear hw0 hb0 hrow0 hg
  go_wp2_with fail
  refine (begins_calls A n c b w0 (HR.out.below HB0.out) Hb.out hc (fun j hj => kept_cell HB0.out (HM.out j hj))).mono ?_
  rintro e w1 ⟨t, rfl, Ht, hb1⟩
  have hrow1 := (hb1.block g (Array.getElem?_eq_some_iff.1 HR0.out).1).trans HR0.out
  have q0 := two_c0 hrow1
  have q1 := two_c1 hrow1
  have f0 : w1.frozen? ⟨g, 0, none⟩ = false := frozen_of_row w1 g 0 _ _ hrow1
  have f1 : w1.frozen? ⟨g, 1, none⟩ = false := frozen_of_row w1 g 1 _ _ hrow1
  have HR1 := Lib.hid hrow1
  have HB1 := Lib.hid (below_seq HB0.out (Nat.le_refl _) hb1)
  clear hb1 hrow1
  cases t
  · go_wp2_with fail
    have hno : ¬ Begins b := fun h => by have := Ht.out.2 h; cases this
    have hrow9 := two_set HR1.out (.int .i64 0) (.slice none 0 0)
    have hl := run_loadVar_row (P := Tryd.prog) _ g 26 26 _ _ _ hrow9 Tryd.underlying26 rfl (by kernel_rfl)
    have hf9 : Fr w1 ((w1.setCell ⟨g, 0, none⟩ (.int .i64 0)).setCell ⟨g, 1, none⟩ (.slice none 0 0)) [some g] := ((Fr.refl _ _).set _ _ (.inl (by simp))).set _ _ (.inl (by simp))
    refine bodyPost_ret (v := .tuple #[.agg #[.int .i64 0, .slice none 0 0], .int .i64 (0 : Nat), .int .i64 5]) ?_ rfl ⟨0, none, 0, 0, [], 0, 5, rfl, Lib.hid (next_magic hno), Lib.hid (World.ownsRow_nil _ _ _ _), HB1.out.trans (hf9.below (by have := HG.out; have := HB1.out.size; omega) (fun o ho j e => by simp at ho; subst ho; cases e; rw [HG.out]; exact Nat.le_refl _))⟩
    simp [results, Tryd.results13, asAddr, hl]
  · have hbeg : Begins b := Ht.out.1 rfl
    have HBeg := Lib.hid hbeg
    clear hbeg Ht
    by_cases h9 : n ≤ 8
    · go_wp2_with fail
      have hrow9 := two_set HR1.out (.int .i64 0) (.slice none 0 0)
      have hl := run_loadVar_row (P := Tryd.prog) _ g 26 26 _ _ _ hrow9 Tryd.underlying26 rfl (by kernel_rfl)
      have hf9 : Fr w1 ((w1.setCell ⟨g, 0, none⟩ (.int .i64 0)).setCell ⟨g, 1, none⟩ (.slice none 0 0)) [some g] := ((Fr.refl _ _).set _ _ (.inl (by simp))).set _ _ (.inl (by simp))
      refine bodyPost_ret (v := .tuple #[.agg #[.int .i64 0, .slice none 0 0], .int .i64 (0 : Nat), .int .i64 2]) ?_ rfl ⟨0, none, 0, 0, [], 0, 2, rfl, Lib.hid (next_few HBeg.out (by rw [Hl.out]; omega)), Lib.hid (World.ownsRow_nil _ _ _ _), HB1.out.trans (hf9.below (by have := HG.out; have := HB1.out.size; omega) (fun o ho j e => by simp at ho; subst ho; cases e; rw [HG.out]; exact Nat.le_refl _))⟩
      simp [results, Tryd.results13, asAddr, hl]
    · obtain ⟨b0, o0, rfl, hx⟩ := (HR.out.below HB1.out).2 (by omega)
      have z8 := hx 8 (by omega)
      have hx8 := Hb.out _ (rd_mem (l := b) (j := 8) (by rw [Hl.out]; omega))
      obtain ⟨x, hxe⟩ : ∃ x, x = rd b 8 := ⟨_, rfl⟩
      rw [← hxe] at z8 hx8
      have Hxe := Lib.hid hxe
      have hlen9 : Hid (9 ≤ b.length) := Lib.hid (by rw [Hl.out]; omega)
      clear hx hxe
      go_upto_region 6 with fail
      obtain ⟨gc, hgc⟩ : ∃ gc, gc = w1.heap.size := ⟨_, rfl⟩
      obtain ⟨w2, hw2⟩ : ∃ X, X = w1.alloc (.cells #[.int .i64 x, .slice none 0 0] 26) := ⟨_, rfl⟩
      rw [← hw2, ← hgc]
      have hb2 : Below w1.heap.size w1 w2 := by rw [hw2]; exact (Below.refl _ _).alloc (Nat.le_refl _) _
      have hrowc : w2.heap[gc]? = some (.cells #[.int .i64 x, .slice none 0 0] 26 (0, 0)) := by rw [hw2, hgc]; exact heap_alloc_new w1 _
      have hgg : g < gc := by rw [hgc]; exact (Array.getElem?_eq_some_iff.1 HR1.out).1
      clear q0 q1 f0 f1
      have hrow2 := (hb2.block g (Array.getElem?_eq_some_iff.1 HR1.out).1).trans HR1.out
      have q0 := two_c0 hrow2
      have q1 := two_c1 hrow2
      have f0 : w2.frozen? ⟨g, 0, none⟩ = false := frozen_of_row w2 g 0 _ _ hrow2
      have f1 : w2.frozen? ⟨g, 1, none⟩ = false := frozen_of_row w2 g 1 _ _ hrow2
      have HR2 := Lib.hid hrow2
      have c0 := two_c0 hrowc
      have HRC := Lib.hid hrowc
      have HB2 := Lib.hid (below_seq HB1.out (Nat.le_refl _) hb2)
      have hgcw : w.heap.size ≤ gc := by rw [hgc]; exact HB1.out.size
      clear hw2 hgc hb2 hrowc hrow2 z8
      by_cases hk : ¬ (x = 1 ∨ x = 2)
      · have n1 : (x != 1) = true := by simp; exact fun e => hk (.inl e)
        have n2 : (x != 2) = true := by simp; exact fun e => hk (.inr e)
        have Hk := Lib.hid hk
        clear hk
        go_wp2_with fail
        have hrow9 := two_set HR2.out (.int .i64 0) (.slice none 0 0)
        have hl := run_loadVar_row (P := Tryd.prog) _ g 26 26 _ _ _ hrow9 Tryd.underlying26 rfl (by kernel_rfl)
        have hf9 : Fr w2 ((w2.setCell ⟨g, 0, none⟩ (.int .i64 0)).setCell ⟨g, 1, none⟩ (.slice none 0 0)) [some g] := ((Fr.refl _ _).set _ _ (.inl (by simp))).set _ _ (.inl (by simp))
        refine bodyPost_ret (v := .tuple #[.agg #[.int .i64 0, .slice none 0 0], .int .i64 (0 : Nat), .int .i64 6]) ?_ rfl ⟨0, none, 0, 0, [], 0, 6, rfl, Lib.hid (next_type HBeg.out hlen9.out (fun h => by unfold IsKind at h; rw [← Hxe.out] at h; exact Hk.out h)), Lib.hid (World.ownsRow_nil _ _ _ _), HB2.out.trans (hf9.below (by have := HG.out; have := HB2.out.size; omega) (fun o ho j e => by simp at ho; subst ho; cases e; rw [HG.out]; exact Nat.le_refl _))⟩
        simp [results, Tryd.results13, asAddr, hl]
      · have HKd : Hid (IsKind b) := Lib.hid (by unfold IsKind; rw [← Hxe.out]; exact Classical.not_not.1 hk)
        go_cut [33] from 26 to 33 (fun t wx => t = .bool false ∧ wx = w2)
        case first =>
          rcases Classical.not_not.1 hk with h | h
          · go_wp2
            go_meet
            exact ⟨rfl, rfl⟩
          · go_wp2
            go_meet
            exact ⟨rfl, rfl⟩
        case rest =>
          obtain ⟨rfl, rfl⟩ := hcut
          clear hk
          go_upto_region 8 with fail
          obtain ⟨W2, hW2⟩ : ∃ W, W = wc := ⟨_, rfl⟩
          subst hW2
          go_cut [6, 7, 8] from 35 to 41 (fun x y z wx => ∃ (v k : Nat) (f : Int), x = .int .u64 v ∧ y = .int .i64 k ∧ z = .int .i64 f ∧ Hid (IsGet (b.drop 9) v k f) ∧ Hid (Below W2.heap.size W2 wx))
          case first =>
            have hbd : ∀ y ∈ b.drop 9, 0 ≤ y ∧ y ≤ 255 := fun y hy => Hb.out y (List.mem_of_mem_drop hy)
            have Hbd := Lib.hid hbd
            clear hbd q0 q1 f0 f1 c0
            by_cases hcc : 9 < c
            · go_wp2_with fail
              refine (GetU_calls (some ⟨b0, o0 + 9, none⟩) (n - 9) (c - 9) (b.drop 9) _ (rd_drop_w (HR.out.below HB2.out) (by omega) (by omega)) (fun e => by cases e) (by omega) Hbd.out (by omega)).mono ?_
              rintro e w3 ⟨v, k, f, rfl, HGt, hb3⟩
              go_wp2
              go_meet
              exact ⟨v, k, f, rfl, rfl, rfl, HGt, Lib.hid hb3⟩
            · obtain rfl : c = 9 := by omega
              obtain rfl : n = 9 := by omega
              have hd9 : b.drop 9 = [] := List.drop_eq_nil_of_le (by rw [Hl.out]; omega)
              go_wp2_with fail
              refine (GetU_calls _ 0 0 (b.drop 9) _ (by rw [hd9]; exact rd_emp _ _) (fun _ => ⟨rfl, rfl⟩) (by omega) Hbd.out (by omega)).mono ?_
              rintro e w3 ⟨v, k, f, rfl, HGt, hb3⟩
              go_wp2
              go_meet
              exact ⟨v, k, f, rfl, rfl, rfl, HGt, Lib.hid hb3⟩
          case rest =>
            obtain ⟨v, k, f, rfl, rfl, rfl, HGt, HBx⟩ := hcut
            obtain ⟨W3, hW3⟩ : ∃ W, W = wc := ⟨_, rfl⟩
            subst hW3
            clear q0 q1 f0 f1 c0
            have hrow3 := (HBx.out.block g (Array.getElem?_eq_some_iff.1 HR2.out).1).trans HR2.out
            have q0 := two_c0 hrow3
            have q1 := two_c1 hrow3
            have f0 : W3.frozen? ⟨g, 0, none⟩ = false := frozen_of_row W3 g 0 _ _ hrow3
            have f1 : W3.frozen? ⟨g, 1, none⟩ = false := frozen_of_row W3 g 1 _ _ hrow3
            have HR3 := Lib.hid hrow3
            have hrowc3 := (HBx.out.block gc (Array.getElem?_eq_some_iff.1 HRC.out).1).trans HRC.out
            have HRC3 := Lib.hid hrowc3
            have HB3 := Lib.hid (below_seq HB2.out (Nat.le_refl _) HBx.out)
            clear hrow3 hrowc3
            by_cases hf : f ≠ 0
            · have hfb : (f != 0) = true := by simpa using hf
              have Hf := Lib.hid hf
              clear hf
              go_wp2_with fail
              have hrow9 := two_set HR3.out (.int .i64 0) (.slice none 0 0)
              have hl := run_loadVar_row (P := Tryd.prog) _ g 26 26 _ _ _ hrow9 Tryd.underlying26 rfl (by kernel_rfl)
              have hf9 : Fr W3 ((W3.setCell ⟨g, 0, none⟩ (.int .i64 0)).setCell ⟨g, 1, none⟩ (.slice none 0 0)) [some g] := ((Fr.refl _ _).set _ _ (.inl (by simp))).set _ _ (.inl (by simp))
              refine bodyPost_ret (v := .tuple #[.agg #[.int .i64 0, .slice none 0 0], .int .i64 (0 : Nat), .int .i64 f]) ?_ rfl ⟨0, none, 0, 0, [], 0, f, rfl, Lib.hid (next_num HBeg.out hlen9.out HKd.out HGt.out Hf.out), Lib.hid (World.ownsRow_nil _ _ _ _), HB3.out.trans (hf9.below (by have := HG.out; have := HB3.out.size; omega) (fun o ho j e => by simp at ho; subst ho; cases e; rw [HG.out]; exact Nat.le_refl _))⟩
              simp [results, Tryd.results13, asAddr, hl]
            · obtain rfl : f = 0 := Classical.not_not.1 hf
              obtain ⟨hk1, hk10, hkn, hv64⟩ := isGet_rng HGt.out
              clear hf
              by_cases hv : 1048576 < v
              · go_wp2_with fail
                have hrow9 := two_set HR3.out (.int .i64 0) (.slice none 0 0)
                have hl := run_loadVar_row (P := Tryd.prog) _ g 26 26 _ _ _ hrow9 Tryd.underlying26 rfl (by kernel_rfl)
                have hf9 : Fr W3 ((W3.setCell ⟨g, 0, none⟩ (.int .i64 0)).setCell ⟨g, 1, none⟩ (.slice none 0 0)) [some g] := ((Fr.refl _ _).set _ _ (.inl (by simp))).set _ _ (.inl (by simp))
                refine bodyPost_ret (v := .tuple #[.agg #[.int .i64 0, .slice none 0 0], .int .i64 (0 : Nat), .int .i64 4]) ?_ rfl ⟨0, none, 0, 0, [], 0, 4, rfl, Lib.hid (next_long HBeg.out hlen9.out HKd.out HGt.out hv), Lib.hid (World.ownsRow_nil _ _ _ _), HB3.out.trans (hf9.below (by have := HG.out; have := HB3.out.size; omega) (fun o ho j e => by simp at ho; subst ho; cases e; rw [HG.out]; exact Nat.le_refl _))⟩
                simp [results, Tryd.results13, asAddr, hl]
              · by_cases hto : n < 9 + k + v
                · go_wp2_with fail
                  go_wp2_with fail
                  have hrow9 := two_set HR3.out (.int .i64 0) (.slice none 0 0)
                  have hl := run_loadVar_row (P := Tryd.prog) _ g 26 26 _ _ _ hrow9 Tryd.underlying26 rfl (by kernel_rfl)
                  have hf9 : Fr W3 ((W3.setCell ⟨g, 0, none⟩ (.int .i64 0)).setCell ⟨g, 1, none⟩ (.slice none 0 0)) [some g] := ((Fr.refl _ _).set _ _ (.inl (by simp))).set _ _ (.inl (by simp))
                  refine bodyPost_ret (v := .tuple #[.agg #[.int .i64 0, .slice none 0 0], .int .i64 (0 : Nat), .int .i64 2]) ?_ rfl ⟨0, none, 0, 0, [], 0, 2, rfl, Lib.hid (next_short HBeg.out hlen9.out HKd.out HGt.out (by omega) (by rw [Hl.out]; exact hto)), Lib.hid (World.ownsRow_nil _ _ _ _), HB3.out.trans (hf9.below (by have := HG.out; have := HB3.out.size; omega) (fun o ho j e => by simp at ho; subst ho; cases e; rw [HG.out]; exact Nat.le_refl _))⟩
                  simp [results, Tryd.results13, asAddr, hl]
                · go_upto_region 17 with fail
                  have c1 := two_c1 HRC3.out
                  have e1 : W3.frozen? ⟨gc, 1, none⟩ = false := frozen_of_row W3 gc 1 _ _ HRC3.out
                  clear q0 q1 f0 f1
                  go_cut [] from 62 to 68 (fun wx => ∃ (A3 : Option Addr) (c3 : Nat), Hid (wx.ownsRow w.heap.size 5 1 (.slice A3 v c3) v (ints .u8 ((b.drop (9 + k)).take v))) ∧ Hid (wx.heap[gc]? = some (.cells #[.int .i64 x, .slice A3 v c3] 26 (0, 0))) ∧ Hid (wx.heap[g]? = some (.cells #[.int .i64 0, .slice none 0 0] 26 (0, 0))) ∧ Hid (Below w.heap.size w wx))
                  case first =>
                    by_cases hcc : 9 + k < c
                    · go_wp2_with (at_builtin; refine wpList_appRd rfl _ _ rfl elBy (ys := []) (own_lit0 W3 _) rfl rfl (((rd_take_c (rd_drop_w (HR.out.below HB3.out) (by omega) (k := 9 + k) (by omega)) (by omega))).alloc _) (fun e => by cases e) (by omega) (by simp) ?_; intro v4 W4 ho4 hg4; rw [Nat.zero_add, List.nil_append] at ho4; obtain ⟨A4, c4, rfl⟩ := own_slice ho4; have hb4 : Below W3.heap.size W3 W4 := ((Below.refl _ _).alloc (Nat.le_refl _) _).grown hg4 (by simp) (fun k hk => by simp [Value.ownBlock] at hk; omega); have hrc4 := (hb4.block gc (Array.getElem?_eq_some_iff.1 HRC3.out).1).trans HRC3.out; have hr4 := (hb4.block g (Array.getElem?_eq_some_iff.1 HR3.out).1).trans HR3.out; have c1 := two_c1 hrc4; have e1 : W4.frozen? ⟨gc, 1, none⟩ = false := frozen_of_row W4 gc 1 _ _ hrc4; have HRC4 := Lib.hid hrc4; have HR4 := Lib.hid hr4; have HO4 := Lib.hid (own_mono ho4 HB3.out.size); have HB4 := Lib.hid (below_seq HB3.out (Nat.le_refl _) hb4); clear ho4 hg4 hb4 hrc4 hr4)
                      go_meet
                      have hf9 : Fr W4 (W4.setCell ⟨gc, 1, none⟩ (.slice A4 v c4)) [some gc] := (Fr.refl _ _).set _ _ (.inl (by simp))
                      have ho9 := own_fr HO4.out hf9 (fun o ho => by simp at ho; subst ho; exact own_apart HRC4.out (by decide) HO4.out)
                      rw [show 9 + k + v - (9 + k) = v by omega] at ho9
                      refine ⟨A4, c4, Lib.hid (ho9), Lib.hid (heap_setCell_same W4 gc 1 _ _ _ HRC4.out), Lib.hid ((hf9.block g (Array.getElem?_eq_some_iff.1 HR4.out).1 (fun o ho e => by simp at ho; subst ho; cases e; omega)).trans HR4.out), Lib.hid (HB4.out.trans (hf9.below (by have := HB4.out.size; omega) (fun o ho j e => by simp at ho; subst ho; cases e; exact hgcw)))⟩
                    · have hce : 9 + k = c := by omega
                      have hv0 : v ≤ 0 := by omega
                      clear hcc
                      go_wp2_with (at_builtin; refine wpList_appRd rfl _ _ rfl elBy (ys := []) (own_lit0 W3 _) rfl rfl ((rd_nul (by omega) W3 _ (b.drop (9 + k))).alloc _) (fun e => by cases e) (by omega) (by simp) ?_; intro v4 W4 ho4 hg4; rw [Nat.zero_add, List.nil_append] at ho4; obtain ⟨A4, c4, rfl⟩ := own_slice ho4; have hb4 : Below W3.heap.size W3 W4 := ((Below.refl _ _).alloc (Nat.le_refl _) _).grown hg4 (by simp) (fun k hk => by simp [Value.ownBlock] at hk; omega); have hrc4 := (hb4.block gc (Array.getElem?_eq_some_iff.1 HRC3.out).1).trans HRC3.out; have hr4 := (hb4.block g (Array.getElem?_eq_some_iff.1 HR3.out).1).trans HR3.out; have c1 := two_c1 hrc4; have e1 : W4.frozen? ⟨gc, 1, none⟩ = false := frozen_of_row W4 gc 1 _ _ hrc4; have HRC4 := Lib.hid hrc4; have HR4 := Lib.hid hr4; have HO4 := Lib.hid (own_mono ho4 HB3.out.size); have HB4 := Lib.hid (below_seq HB3.out (Nat.le_refl _) hb4); clear ho4 hg4 hb4 hrc4 hr4)
                      go_meet
                      have hf9 : Fr W4 (W4.setCell ⟨gc, 1, none⟩ (.slice A4 v c4)) [some gc] := (Fr.refl _ _).set _ _ (.inl (by simp))
                      have ho9 := own_fr HO4.out hf9 (fun o ho => by simp at ho; subst ho; exact own_apart HRC4.out (by decide) HO4.out)
                      rw [show 9 + k + v - (9 + k) = v by omega] at ho9
                      refine ⟨A4, c4, Lib.hid (ho9), Lib.hid (heap_setCell_same W4 gc 1 _ _ _ HRC4.out), Lib.hid ((hf9.block g (Array.getElem?_eq_some_iff.1 HR4.out).1 (fun o ho e => by simp at ho; subst ho; cases e; omega)).trans HR4.out), Lib.hid (HB4.out.trans (hf9.below (by have := HB4.out.size; omega) (fun o ho j e => by simp at ho; subst ho; cases e; exact hgcw)))⟩
                  case rest =>
                    obtain ⟨A3, c3, HO5, HRC5, HR5, HB5⟩ := hcut
                    obtain ⟨W5, hW5⟩ : ∃ W, W = wc := ⟨_, rfl⟩
                    subst hW5
                    have L0 := Later.refl W5
                    have C0 := Later.cell (two_c0 HRC5.out)
                    have C1 := Later.cell (two_c1 HRC5.out)
                    obtain ⟨C, hC⟩ : ∃ C, C = (b.drop (9 + k)).take v := ⟨_, rfl⟩
                    rw [← hC] at HO5
                    obtain ⟨_, _, ea, hc3, hr3⟩ := own_rd HO5.out
                    cases ea
                    have hn3 := own_none HO5.out
                    have hcb : ∀ y ∈ C, 0 ≤ y ∧ y ≤ 255 := fun y hy => Hb.out y (List.mem_of_mem_drop (List.mem_of_mem_take (by rw [← hC]; exact hy)))
                    have hsl : Rd W5 .u8 (some ⟨b0, o0 + 4, none⟩) 4 ((b.drop 4).take 4) := rd_take_c (rd_drop_w (HR.out.below HB5.out) (by omega) (k := 4) (by omega)) (by omega)
                    obtain ⟨sa, hsa⟩ : ∃ sa, sa = strOfNums (sumB x C) := ⟨_, rfl⟩
                    obtain ⟨sb, hsb⟩ : ∃ sb, sb = strOfNums ((b.drop 4).take 4) := ⟨_, rfl⟩
                    have h8c : (8 : Int) ≤ (c : Int) := by omega
                    have h4c : ¬ c = 4 := by omega
                    have HC := Lib.hid hC
                    have Hr3 := Lib.hid hr3
                    have Hn3 := Lib.hid hn3
                    have Hcb := Lib.hid hcb
                    have Hsl := Lib.hid hsl
                    have HSa := Lib.hid hsa
                    have HSb := Lib.hid hsb
                    clear hC hr3 hn3 hcb hsl hsa hsb
                    go_upto_region 18 with fail
                    go_cut [75] from 69 to 75 (fun t wx => ∃ q : Bool, t = .bool q ∧ Hid (q = true ↔ sa ≠ sb) ∧ Hid (Below W5.heap.size W5 wx))
                    case first =>
                      refine wp_region_noPanic ?_
                      refine wp_region_held_drew (S := fun W => Later W5 W ∧ W.cell? ⟨gc, 0, none⟩ = some (.int .i64 x) ∧ W.cell? ⟨gc, 1, none⟩ = some (.slice A3 v c3)) (by kernel_rfl) (⟨(Later.drew L0), C0 _ (Later.drew L0), C1 _ (Later.drew L0)⟩) (fun hHeld => ?_)
                      refine' wpAnyH_take (i := 0) (oi := ⟨_, _, _, _, _, _⟩) (v := _) rfl (by kernel_rfl) (by kernel_rfl) (by kernel_rfl) (fun _ _ _ h => h) (Or.inl ⟨by rfl, ?hya0⟩) (by assumption) ?resta0
                      case hya0 => (intro w hSw; (try dsimp only at hSw); go_simp; try with_reducible rfl)
                      try simp only [Act.put, List.setIfInBounds_toArray, List.set_cons_zero, List.set_cons_succ]
                      refine' wpAnyH_take (i := 3) (oi := ⟨_, _, _, _, _, _⟩) (v := _) rfl (by kernel_rfl) (by kernel_rfl) (by kernel_rfl) (fun _ _ _ h => h) (Or.inl ⟨by rfl, ?hya3⟩) (by assumption) ?resta3
                      case hya3 => (intro w hSw; (try dsimp only at hSw); go_simp; try with_reducible rfl)
                      try simp only [Act.put, List.setIfInBounds_toArray, List.set_cons_zero, List.set_cons_succ]
                      refine' wpAnyH_take (i := 4) (oi := ⟨_, _, _, _, _, _⟩) (v := _) rfl (by kernel_rfl) (by kernel_rfl) (by kernel_rfl) (fun _ _ _ h => h) (Or.inl ⟨by rfl, ?hya4⟩) (by assumption) ?resta4
                      case hya4 => (intro w hSw; (try dsimp only at hSw); go_simp; try with_reducible rfl)
                      try simp only [Act.put, List.setIfInBounds_toArray, List.set_cons_zero, List.set_cons_succ]
                      refine wpAnyH_ready (rs := [1, 5]) (by kernel_rfl) (by simp) ?_
                      refine AllReadyH.cons (o := ⟨_, _, _, _, _, _⟩) rfl (fun K hK => ?_) (AllReadyH.cons (o := ⟨_, _, _, _, _, _⟩) rfl (fun K hK => ?_) AllReadyH.nil)
                      · go_simp
                        go_at_call 16
                        refine (sum_calls x A3 v c3 C _ hx8 (Hr3.out.below (Later.bel (Later.drew L0))) Hn3.out hc3 Hcb.out (by omega) (fun j hj => kept_cell (HB5.out.trans ((Later.bel (Later.drew L0)).mono HB5.out.size)) (HK.out j hj)) (fun j hj => kept_cell (HB5.out.trans ((Later.bel (Later.drew L0)).mono HB5.out.size)) (HBg.out j hj))).mono ?_
                        rintro e w9 ⟨g9, rfl, hr9, hb9⟩
                        have L9 := Later.step (Later.drew L0) hb9
                        refine hK.out _ _ (⟨L9, C0 _ L9, C1 _ L9⟩) (fun hHeldN => ?_)
                        clear hK K hHeld
                        have hHeld := hHeldN
                        clear hHeldN
                        try simp only [Act.put, List.setIfInBounds_toArray, List.set_cons_zero, List.set_cons_succ]
                        refine wpAnyH_ready (rs := [2, 5]) (by kernel_rfl) (by simp) ?_
                        refine AllReadyH.cons (o := ⟨_, _, _, _, _, _⟩) rfl (fun K hK => ?_) (AllReadyH.cons (o := ⟨_, _, _, _, _, _⟩) rfl (fun K hK => ?_) AllReadyH.nil)
                        · have cv := conv_all (c := 32) hr9.out
                          rw [← HSa.out] at cv
                          go_simp
                          clear cv
                          refine hK.out _ _ (⟨L9, C0 _ L9, C1 _ L9⟩) (fun hHeldN => ?_)
                          clear hK K hHeld
                          have hHeld := hHeldN
                          clear hHeldN
                          try simp only [Act.put, List.setIfInBounds_toArray, List.set_cons_zero, List.set_cons_succ]
                          refine wpAnyH_ready (rs := [5]) (by kernel_rfl) (by simp) ?_
                          refine AllReadyH.cons (o := ⟨_, _, _, _, _, _⟩) rfl (fun K hK => ?_) AllReadyH.nil
                          have cv := conv_all (c := c - 4) (Hsl.out.below (Later.bel L9))
                          rw [← HSb.out] at cv
                          go_simp
                          clear cv
                          refine hK.out _ _ (⟨L9, C0 _ L9, C1 _ L9⟩) (fun hHeldN => ?_)
                          clear hK K hHeld
                          have hHeld := hHeldN
                          clear hHeldN
                          try simp only [Act.put, List.setIfInBounds_toArray, List.set_cons_zero, List.set_cons_succ]
                          refine' wpAnyH_take (i := 6) (oi := ⟨_, _, _, _, _, _⟩) (v := _) rfl (by kernel_rfl) (by kernel_rfl) (by kernel_rfl) (fun _ _ _ h => h) (Or.inl ⟨by rfl, ?hyz1_6⟩) (by assumption) ?restz1_6
                          case hyz1_6 => (intro w hSw; (try dsimp only at hSw); go_simp; try with_reducible rfl)
                          try simp only [Act.put, List.setIfInBounds_toArray, List.set_cons_zero, List.set_cons_succ]
                          refine wpAnyH_done (by kernel_rfl) ?_ _
                          refine NoPanic.normal ?_
                          go_wp2
                          go_meet
                          exact ⟨_, rfl, Lib.hid (by rw [tl_beq]; simp), Lib.hid (Later.bel L9)⟩
                        · have cv := conv_all (c := c - 4) (Hsl.out.below (Later.bel L9))
                          rw [← HSb.out] at cv
                          go_simp
                          clear cv
                          refine hK.out _ _ (⟨L9, C0 _ L9, C1 _ L9⟩) (fun hHeldN => ?_)
                          clear hK K hHeld
                          have hHeld := hHeldN
                          clear hHeldN
                          try simp only [Act.put, List.setIfInBounds_toArray, List.set_cons_zero, List.set_cons_succ]
                          refine wpAnyH_ready (rs := [2]) (by kernel_rfl) (by simp) ?_
                          refine AllReadyH.cons (o := ⟨_, _, _, _, _, _⟩) rfl (fun K hK => ?_) AllReadyH.nil
                          have cv := conv_all (c := 32) hr9.out
                          rw [← HSa.out] at cv
                          go_simp
                          clear cv
                          refine hK.out _ _ (⟨L9, C0 _ L9, C1 _ L9⟩) (fun hHeldN => ?_)
                          clear hK K hHeld
                          have hHeld := hHeldN
                          clear hHeldN
                          try simp only [Act.put, List.setIfInBounds_toArray, List.set_cons_zero, List.set_cons_succ]
                          refine' wpAnyH_take (i := 6) (oi := ⟨_, _, _, _, _, _⟩) (v := _) rfl (by kernel_rfl) (by kernel_rfl) (by kernel_rfl) (fun _ _ _ h => h) (Or.inl ⟨by rfl, ?hyz2_6⟩) (by assumption) ?restz2_6
                          case hyz2_6 => (intro w hSw; (try dsimp only at hSw); go_simp; try with_reducible rfl)
                          try simp only [Act.put, List.setIfInBounds_toArray, List.set_cons_zero, List.set_cons_succ]
                          refine wpAnyH_done (by kernel_rfl) ?_ _
                          refine NoPanic.normal ?_
                          go_wp2
                          go_meet
                          exact ⟨_, rfl, Lib.hid (by rw [tl_beq]; simp), Lib.hid (Later.bel L9)⟩
                      · have cv := conv_all (c := c - 4) (Hsl.out.below (Later.bel (Later.drew L0)))
                        rw [← HSb.out] at cv
                        go_simp
                        clear cv
                        refine hK.out _ _ (⟨(Later.drew L0), C0 _ (Later.drew L0), C1 _ (Later.drew L0)⟩) (fun hHeldN => ?_)
                        clear hK K hHeld
                        have hHeld := hHeldN
                        clear hHeldN
                        try simp only [Act.put, List.setIfInBounds_toArray, List.set_cons_zero, List.set_cons_succ]
                        refine wpAnyH_ready (rs := [1]) (by kernel_rfl) (by simp) ?_
                        refine AllReadyH.cons (o := ⟨_, _, _, _, _, _⟩) rfl (fun K hK => ?_) AllReadyH.nil
                        go_simp
                        go_at_call 16
                        refine (sum_calls x A3 v c3 C _ hx8 (Hr3.out.below (Later.bel (Later.drew L0))) Hn3.out hc3 Hcb.out (by omega) (fun j hj => kept_cell (HB5.out.trans ((Later.bel (Later.drew L0)).mono HB5.out.size)) (HK.out j hj)) (fun j hj => kept_cell (HB5.out.trans ((Later.bel (Later.drew L0)).mono HB5.out.size)) (HBg.out j hj))).mono ?_
                        rintro e w9 ⟨g9, rfl, hr9, hb9⟩
                        have L9 := Later.step (Later.drew L0) hb9
                        refine hK.out _ _ (⟨L9, C0 _ L9, C1 _ L9⟩) (fun hHeldN => ?_)
                        clear hK K hHeld
                        have hHeld := hHeldN
                        clear hHeldN
                        try simp only [Act.put, List.setIfInBounds_toArray, List.set_cons_zero, List.set_cons_succ]
                        refine wpAnyH_ready (rs := [2]) (by kernel_rfl) (by simp) ?_
                        refine AllReadyH.cons (o := ⟨_, _, _, _, _, _⟩) rfl (fun K hK => ?_) AllReadyH.nil
                        have cv := conv_all (c := 32) hr9.out
                        rw [← HSa.out] at cv
                        go_simp
                        clear cv
                        refine hK.out _ _ (⟨L9, C0 _ L9, C1 _ L9⟩) (fun hHeldN => ?_)
                        clear hK K hHeld
                        have hHeld := hHeldN
                        clear hHeldN
                        try simp only [Act.put, List.setIfInBounds_toArray, List.set_cons_zero, List.set_cons_succ]
                        refine' wpAnyH_take (i := 6) (oi := ⟨_, _, _, _, _, _⟩) (v := _) rfl (by kernel_rfl) (by kernel_rfl) (by kernel_rfl) (fun _ _ _ h => h) (Or.inl ⟨by rfl, ?hyz3_6⟩) (by assumption) ?restz3_6
                        case hyz3_6 => (intro w hSw; (try dsimp only at hSw); go_simp; try with_reducible rfl)
                        try simp only [Act.put, List.setIfInBounds_toArray, List.set_cons_zero, List.set_cons_succ]
                        refine wpAnyH_done (by kernel_rfl) ?_ _
                        refine NoPanic.normal ?_
                        go_wp2
                        go_meet
                        exact ⟨_, rfl, Lib.hid (by rw [tl_beq]; simp), Lib.hid (Later.bel L9)⟩
                    case rest =>
                      obtain ⟨q, rfl, HQ, HB6⟩ := hcut
                      obtain ⟨W6, hW6⟩ : ∃ W, W = wc := ⟨_, rfl⟩
                      subst hW6
                      have hBB := below_seq HB5.out (Nat.le_refl _) HB6.out
                      have c0 := C0 _ (⟨HB6.out⟩)
                      have c1' := C1 _ (⟨HB6.out⟩)
                      clear c1 e1 C0 C1 L0
                      have hrow6 := (HB6.out.block g (Array.getElem?_eq_some_iff.1 HR5.out).1).trans HR5.out
                      have q0 := two_c0 hrow6
                      have q1 := two_c1 hrow6
                      have f0 : W6.frozen? ⟨g, 0, none⟩ = false := frozen_of_row W6 g 0 _ _ hrow6
                      have f1 : W6.frozen? ⟨g, 1, none⟩ = false := frozen_of_row W6 g 1 _ _ hrow6
                      have HR6 := Lib.hid hrow6
                      have HBB := Lib.hid hBB
                      have hO6 := own_below HO5.out HB6.out
                      have HO6 := Lib.hid hO6
                      clear hBB hrow6 hO6
                      have hsums : sa = sb ↔ sumB (rd b 8) ((b.drop (9 + k)).take v) = (b.drop 4).take 4 := by
                        rw [HSa.out, HSb.out, ← Hxe.out, ← HC.out]
                        exact ⟨strOf_sum (sumB_byte _ _) (fun y hy => Hb.out y (List.mem_of_mem_drop (List.mem_of_mem_take hy))), fun h => by rw [h]⟩
                      have Hsums := Lib.hid hsums
                      clear hsums
                      cases q
                      · have hab : sa = sb := Classical.not_not.1 (fun h => by have := HQ.out.2 h; cases this)
                        have Hab := Lib.hid hab
                        clear hab
                        go_wp2_with fail
                        have hrow9 := two_set HR6.out (.int .i64 x) (.slice A3 v c3)
                        have hl := run_loadVar_row (P := Tryd.prog) _ g 26 26 _ _ _ hrow9 Tryd.underlying26 rfl (by kernel_rfl)
                        have hf9 : Fr W6 ((W6.setCell ⟨g, 0, none⟩ (.int .i64 x)).setCell ⟨g, 1, none⟩ (.slice A3 v c3)) [some g] := ((Fr.refl _ _).set _ _ (.inl (by simp))).set _ _ (.inl (by simp))
                        refine bodyPost_ret (v := .tuple #[.agg #[.int .i64 x, .slice A3 v c3], .int .i64 (9 + k + v : Nat), .int .i64 0]) ?_ rfl ⟨x, A3, v, c3, C, 9 + k + v, 0, rfl, Lib.hid (by have hh := next_ok HBeg.out hlen9.out HKd.out HGt.out (by omega) (by rw [Hl.out]; omega) (Hsums.out.1 Hab.out); rw [← Hxe.out, ← HC.out] at hh; exact hh), Lib.hid (own_fr HO6.out hf9 (fun o ho => by simp at ho; subst ho; exact own_apart HR6.out (by decide) HO6.out)), HBB.out.trans (hf9.below (by have := HG.out; have := HBB.out.size; omega) (fun o ho j e => by simp at ho; subst ho; cases e; rw [HG.out]; exact Nat.le_refl _))⟩
                        simp [results, Tryd.results13, asAddr, hl]
                      · have hab : ¬ sa = sb := HQ.out.1 rfl
                        have Hab := Lib.hid hab
                        clear hab
                        go_wp2_with fail
                        have hrow9 := two_set HR6.out (.int .i64 0) (.slice none 0 0)
                        have hl := run_loadVar_row (P := Tryd.prog) _ g 26 26 _ _ _ hrow9 Tryd.underlying26 rfl (by kernel_rfl)
                        have hf9 : Fr W6 ((W6.setCell ⟨g, 0, none⟩ (.int .i64 0)).setCell ⟨g, 1, none⟩ (.slice none 0 0)) [some g] := ((Fr.refl _ _).set _ _ (.inl (by simp))).set _ _ (.inl (by simp))
                        refine bodyPost_ret (v := .tuple #[.agg #[.int .i64 0, .slice none 0 0], .int .i64 (0 : Nat), .int .i64 7]) ?_ rfl ⟨0, none, 0, 0, [], 0, 7, rfl, Lib.hid (next_sum HBeg.out hlen9.out HKd.out HGt.out (by omega) (by rw [Hl.out]; omega) (fun h => Hab.out (Hsums.out.2 h))), Lib.hid (World.ownsRow_nil _ _ _ _), HBB.out.trans (hf9.below (by have := HG.out; have := HBB.out.size; omega) (fun o ho j e => by simp at ho; subst ho; cases e; rw [HG.out]; exact Nat.le_refl _))⟩
                        simp [results, Tryd.results13, asAddr, hl]

end Go.Proofs.YtendohnkhbgfbaaDoor
/-
  What the rows' condition on the listed tables gives the walks: the tables' cells.
-/
namespace Go.Proofs.YtendohnkhbgfbaaDoor
open Go.RowKit

/-- An array of pairs of numbers that reads as rows holds them, two cells a row. -/
theorem pairs_of_trod {H : Type} {enc : TypeId × Value → H} {P : Program} {w : World} {base : Nat} {sp : Nat → Bool} {held : Bool} {fuel t e n : Nat} {f0 f1 : Field} {cs : List Value} {rows : List (Int × Int)} {p : List MemPlace}
    (ht : P.underlying t = some (.array n e)) (he : P.underlying e = some (.struct #[f0, f1])) (o0 : f0.offset = 0) (o1 : f1.offset = 1) (k0 : P.underlying f0.type = some (.int .i64)) (k1 : P.underlying f1.type = some (.int .i64))
    (c0 : P.cellsOf f0.type = 1) (c1 : P.cellsOf f1.type = 1) (ce : P.cellsOf e = 2)
    (h : DataW.trod enc P w base sp held fuel t cs = some (.agg (rows.map fun r => .agg [.lit (.int .i64 r.1), .lit (.int .i64 r.2)]), p)) :
    ∀ j, j < rows.length → cs[j * 2]? = some (.int .i64 (rowL rows j)) ∧ cs[j * 2 + 1]? = some (.int .i64 (rowB rows j)) := by
  obtain ⟨xs, m, rfl, hx, hlen, hn, hel⟩ := DataW.trod_array ht h
  simp only [Prod.mk.injEq, DataW.agg.injEq] at hx
  intro j hj
  have hxl : xs.length = rows.length := by have := congrArg List.length hx.1; simpa using this.symm
  have hz := hel j (by omega)
  obtain ⟨x, hxj⟩ : ∃ x, xs[j]? = some x := ⟨xs[j]'(by omega), by simp [List.getElem?_eq_getElem (show j < xs.length by omega)]⟩
  rw [hxj, ce] at hz
  obtain ⟨y0, y1, n', hxe, hl, h0, h1⟩ := ChangeShapes.trod_struct2 he hz
  obtain ⟨r0, e0, f0', _⟩ := DataW.trod_int k0 h0
  obtain ⟨r1, e1, f1', _⟩ := DataW.trod_int k1 h1
  rw [o0, c0] at e0
  rw [o1, c1] at e1
  have hx1 : x.1 = (DataW.agg [DataW.lit (.int .i64 (rowL rows j)), DataW.lit (.int .i64 (rowB rows j))] : DataW H) := by
    have := congrArg (·[j]?) hx.1
    simp only [List.getElem?_map, hxj, Option.map_some, List.getElem?_eq_getElem hj] at this
    unfold rowL rowB
    rw [List.getD_eq_getElem?_getD, List.getElem?_eq_getElem hj]
    exact (Option.some.inj this).symm
  rw [hxe, f0', f1'] at hx1
  simp at hx1
  obtain ⟨hx1, hx2⟩ := hx1
  subst hx1 hx2
  have g0 := congrArg (·[0]?) e0
  have g1 := congrArg (·[0]?) e1
  simp [List.getElem?_drop] at g0 g1
  exact ⟨g0, g1⟩

theorem gLens : Tryd.prog.globalNamed "inkwell/syms.lengths" = some 4 := by kernel_rfl
theorem gDists : Tryd.prog.globalNamed "inkwell/syms.distances" = some 5 := by kernel_rfl
theorem tLens : (Tryd.prog.globals[4]?).map (·.type) = some 184 := by kernel_rfl
theorem tDists : (Tryd.prog.globals[5]?).map (·.type) = some 185 := by kernel_rfl

theorem tabs_of_laid {W : World} (h : laidMetH Tryd.prog [("inkwell/syms.lengths", Rows.laid_inkwell_syms_lengths), ("inkwell/syms.distances", Rows.laid_inkwell_syms_distances)] W) : Tabs W := by
  rw [MakeChecks.laidMetH_plain _ _ _ (by kernel_rfl)] at h
  obtain ⟨ps, ⟨g0, t0, cs0, n0, p0, q0, hg0, ht0, hv0, hd0, ⟨g1, t1, cs1, n1, p1, q1, hg1, ht1, hv1, hd1, _, _⟩, _⟩, _, _⟩ := h
  obtain rfl := Option.some.inj (gLens.symm.trans hg0)
  obtain rfl := Option.some.inj (gDists.symm.trans hg1)
  obtain rfl := Option.some.inj (tLens.symm.trans ht0)
  obtain rfl := Option.some.inj (tDists.symm.trans ht1)
  have u0 := pairs_of_trod (rows := lens) Tryd.underlying184 Tryd.underlying183 rfl rfl Tryd.underlying3 Tryd.underlying3 (by kernel_rfl) (by kernel_rfl) (by kernel_rfl) hd0
  have u1 := pairs_of_trod (rows := dists) Tryd.underlying185 Tryd.underlying183 rfl rfl Tryd.underlying3 Tryd.underlying3 (by kernel_rfl) (by kernel_rfl) (by kernel_rfl) hd1
  refine ⟨fun j hj => ?_, fun j hj => ?_⟩
  · have := u0 j hj
    simp only [Array.getElem?_toList] at this
    rw [World.var?_cell hg0 hv0, World.var?_cell hg0 hv0]
    exact this
  · have := u1 j hj
    simp only [Array.getElem?_toList] at this
    rw [World.var?_cell hg1 hv1, World.var?_cell hg1 hv1]
    exact this
end Go.Proofs.YtendohnkhbgfbaaDoor
/-
  What the rows' condition on the six listed tables gives the walks.
-/
namespace Go.Proofs.YtendohnkhbgfbaaDoor
open Go.RowKit

/-- An array of numbers of a kind that reads as these holds them. -/
theorem ints_of_trodK {H : Type} {enc : TypeId × Value → H} {P : Program} {w : World} {base : Nat} {sp : Nat → Bool} {held : Bool} {fuel t e n : Nat} {k : IntKind} {cs : List Value} {nums : List Int} {p : List MemPlace}
    (ht : P.underlying t = some (.array n e)) (k0 : P.underlying e = some (.int k)) (ce : P.cellsOf e = 1)
    (h : DataW.trod enc P w base sp held fuel t cs = some (.agg (nums.map fun r => .lit (.int k r)), p)) :
    ∀ j, j < nums.length → cs[j]? = some (.int k (rd nums j)) := by
  obtain ⟨xs, m, rfl, hx, hlen, hn, hel⟩ := DataW.trod_array ht h
  simp only [Prod.mk.injEq, DataW.agg.injEq] at hx
  intro j hj
  have hxl : xs.length = nums.length := by have := congrArg List.length hx.1; simpa using this.symm
  have hz := hel j (by omega)
  obtain ⟨x, hxj⟩ : ∃ x, xs[j]? = some x := ⟨xs[j]'(by omega), by simp [List.getElem?_eq_getElem (show j < xs.length by omega)]⟩
  rw [hxj, ce, Nat.mul_one] at hz
  obtain ⟨r0, e0, f0', _⟩ := DataW.trod_int k0 hz
  have hx1 : x.1 = (DataW.lit (.int k (rd nums j)) : DataW H) := by
    have := congrArg (·[j]?) hx.1
    simp only [List.getElem?_map, hxj, Option.map_some, List.getElem?_eq_getElem hj] at this
    rw [rd_getElem hj]
    exact (Option.some.inj this).symm
  rw [f0'] at hx1
  simp at hx1
  subst hx1
  have g0 := congrArg (·[0]?) e0
  simp [List.getElem?_drop] at g0
  exact g0
theorem gKeys : Tryd.prog.globalNamed "inkwell/sha.keys" = some 3 := by kernel_rfl
theorem gBegin : Tryd.prog.globalNamed "inkwell/sha.begin" = some 2 := by kernel_rfl
theorem gMagic : Tryd.prog.globalNamed "inkwell/chunk.magic" = some 0 := by kernel_rfl
theorem tKeys : (Tryd.prog.globals[3]?).map (·.type) = some 174 := by kernel_rfl
theorem tBegin : (Tryd.prog.globals[2]?).map (·.type) = some 82 := by kernel_rfl
theorem tMagic : (Tryd.prog.globals[0]?).map (·.type) = some 46 := by kernel_rfl
theorem key_wv : ∀ j, j < 64 → wv (keyS j) = rd keyL j := fun j hj => by
  have h : ∀ j, j < 64 → 0 ≤ rd keyL j ∧ rd keyL j < 4294967296 := by decide
  exact wv_w32 (h j hj)
theorem first_wv : ∀ j, j < 8 → wv (firstS.at j) = rd firstL j := fun j hj => by
  have h : ∀ j, j < 8 → 0 ≤ rd firstL j ∧ rd firstL j < 4294967296 := by decide
  rcases (show j = 0 ∨ j = 1 ∨ j = 2 ∨ j = 3 ∨ j = 4 ∨ j = 5 ∨ j = 6 ∨ j = 7 by omega) with rfl | rfl | rfl | rfl | rfl | rfl | rfl | rfl <;> exact wv_w32 (h _ (by omega))
structure Tabs22 (w : World) : Prop where
  tabs : Tabs w
  ord : OrdAt w
  keys : KeysAt w
  beg : BeginAt w
  mag : MagicAt w
theorem Tabs22.below {w w' : World} (h : Tabs22 w) (hb : Below w.heap.size w w') : Tabs22 w' :=
  ⟨h.tabs.below hb, fun j hj => kept_cell hb (h.ord j hj), fun j hj => kept_cell hb (h.keys j hj), fun j hj => kept_cell hb (h.beg j hj), fun j hj => kept_cell hb (h.mag j hj)⟩
theorem tabs22_of_laid {W : World} (h : laidMetH Tryd.prog [("inkwell/syms.lengths", Rows.laid_inkwell_syms_lengths), ("inkwell/syms.distances", Rows.laid_inkwell_syms_distances), ("inkwell/sha.keys", Rows.laid_inkwell_sha_keys), ("inkwell/sha.begin", Rows.laid_inkwell_sha_begin), ("inkwell/codes.order", Rows.laid_inkwell_codes_order), ("inkwell/chunk.magic", Rows.laid_inkwell_chunk_magic)] W) : Tabs22 W := by
  rw [MakeChecks.laidMetH_plain _ _ _ (by kernel_rfl)] at h
  obtain ⟨ps, ⟨g0, t0, cs0, n0, p0, q0, hg0, ht0, hv0, hd0, ⟨g1, t1, cs1, n1, p1, q1, hg1, ht1, hv1, hd1, ⟨g2, t2, cs2, n2, p2, q2, hg2, ht2, hv2, hd2, ⟨g3, t3, cs3, n3, p3, q3, hg3, ht3, hv3, hd3, ⟨g4, t4, cs4, n4, p4, q4, hg4, ht4, hv4, hd4, ⟨g5, t5, cs5, n5, p5, q5, hg5, ht5, hv5, hd5, _, _⟩, _⟩, _⟩, _⟩, _⟩, _⟩, _, _⟩ := h
  obtain rfl := Option.some.inj (gLens.symm.trans hg0)
  obtain rfl := Option.some.inj (gDists.symm.trans hg1)
  obtain rfl := Option.some.inj (gKeys.symm.trans hg2)
  obtain rfl := Option.some.inj (gBegin.symm.trans hg3)
  obtain rfl := Option.some.inj (gOrd.symm.trans hg4)
  obtain rfl := Option.some.inj (gMagic.symm.trans hg5)
  obtain rfl := Option.some.inj (tLens.symm.trans ht0)
  obtain rfl := Option.some.inj (tDists.symm.trans ht1)
  obtain rfl := Option.some.inj (tKeys.symm.trans ht2)
  obtain rfl := Option.some.inj (tBegin.symm.trans ht3)
  obtain rfl := Option.some.inj (tOrd.symm.trans ht4)
  obtain rfl := Option.some.inj (tMagic.symm.trans ht5)
  have u0 := pairs_of_trod (rows := lens) Tryd.underlying184 Tryd.underlying183 rfl rfl Tryd.underlying3 Tryd.underlying3 (by kernel_rfl) (by kernel_rfl) (by kernel_rfl) hd0
  have u1 := pairs_of_trod (rows := dists) Tryd.underlying185 Tryd.underlying183 rfl rfl Tryd.underlying3 Tryd.underlying3 (by kernel_rfl) (by kernel_rfl) (by kernel_rfl) hd1
  have u2 := ints_of_trodK (nums := keyL) Tryd.underlying174 Tryd.underlying81 (by kernel_rfl) hd2
  have u3 := ints_of_trodK (nums := firstL) Tryd.underlying82 Tryd.underlying81 (by kernel_rfl) hd3
  have u4 := ints_of_trod (nums := ordI) Tryd.underlying151 Tryd.underlying3 (by kernel_rfl) hd4
  have u5 := ints_of_trodK (nums := magicL) Tryd.underlying46 Tryd.underlying5 (by kernel_rfl) hd5
  refine ⟨⟨fun j hj => ?_, fun j hj => ?_⟩, fun j hj => ?_, fun j hj => ?_, fun j hj => ?_, fun j hj => ?_⟩
  · have := u0 j hj
    simp only [Array.getElem?_toList] at this
    rw [World.var?_cell hg0 hv0, World.var?_cell hg0 hv0]
    exact this
  · have := u1 j hj
    simp only [Array.getElem?_toList] at this
    rw [World.var?_cell hg1 hv1, World.var?_cell hg1 hv1]
    exact this
  · have := u4 j hj
    simp only [Array.getElem?_toList] at this
    rw [World.var?_cell hg4 hv4, this, rd_ordI j hj]
  · have := u2 j hj
    simp only [Array.getElem?_toList] at this
    rw [World.var?_cell hg2 hv2, this, key_wv j hj]
  · have := u3 j hj
    simp only [Array.getElem?_toList] at this
    rw [World.var?_cell hg3 hv3, this, first_wv j hj]
  · have := u5 j hj
    simp only [Array.getElem?_toList] at this
    rw [World.var?_cell hg5 hv5, this]
end Go.Proofs.YtendohnkhbgfbaaDoor
/-
  The walk of chapter 22's awake; a chunk's bytes are bytes.
-/
namespace Go.Proofs.YtendohnkhbgfbaaDoor
open Go.RowKit

theorem isRow_byte {w : World} {a : Option Addr} {len cap : Nat} {zs : List Int} (h : IsRow .u8 w a len cap zs) : ∀ x ∈ zs.take len, 0 ≤ x ∧ x ≤ 255 := all_of_rd (fun j hj => h.u8 j (by rw [← h.rd.1]; exact hj))
theorem chunkB_byte {k : Int} {c : List Int} (hk : 0 ≤ k ∧ k ≤ 255) (hc : ∀ x ∈ c, 0 ≤ x ∧ x ≤ 255) : ∀ x ∈ chunkB k c, 0 ≤ x ∧ x ≤ 255 := by
  intro x hx
  unfold chunkB tailB at hx
  rcases List.mem_append.1 hx with h | h
  · simp only [magicL, List.mem_cons, List.not_mem_nil, or_false] at h
    omega
  · rcases List.mem_append.1 h with h | h
    · exact sumB_byte _ _ x h
    · rcases List.mem_cons.1 h with h | h
      · subst h; exact hk
      · rcases List.mem_append.1 h with h | h
        · exact lebU_byte _ x h
        · exact hc x h
theorem packK_nil : packK [] = (1, []) := packK_neg (by simp)
set_option maxHeartbeats 1000000 in
set_option maxRecDepth 100000 in
theorem awake22_calls (w : World) (hT : Tabs22 w) : Calls Tryd.prog 8 #[] w fun e w' => e = .returned (.bool true) ∧ Below w.heap.size w w' := by
  have HT := Lib.hid hT
  clear hT
  go_enter Tryd.func8, Tryd.ntmps8
  go_wp2_with fail
  refine (ChPack_calls none 0 0 [] w ⟨rfl, fun h => by omega⟩ (fun x hx => by cases hx) (fun _ => ⟨rfl, rfl⟩) (by omega) (by omega) HT.out.tabs HT.out.ord).mono ?_
  rintro e w1 ⟨A1, n1, c1, rfl, HO1, hb1⟩
  rw [packK_nil] at HO1 ⊢
  have h0 : n1 = 0 := by have := HO1.out.1; simpa [ints] using this.symm
  subst h0
  have HB1 := Lib.hid hb1
  clear hb1 HO1
  go_wp2
  go_ret
  exact ⟨rfl, HB1.out.alloc HB1.out.size _⟩
end Go.Proofs.YtendohnkhbgfbaaDoor
/-
  The walk of the reference's Put of chunks.
-/
namespace Go.Proofs.YtendohnkhbgfbaaDoor
open Go.RowKit

/-- What is told of the reference's hash. -/
def RPlain : Prop := ∀ (A : Option Addr) (n c : Nat) (bs : List Int) (w : World), Rd w .u8 A n bs → (A = none → n = 0 ∧ c = 0) → (∀ x ∈ bs, 0 ≤ x ∧ x ≤ 255) → n ≤ 100000000 →
  Calls Tryd.prog 21 #[.slice A n c] w fun e w' => e = .returned (.agg (ints .u8 (shaS bs)).toArray) ∧ Below w.heap.size w w'
set_option maxHeartbeats 1000000 in
set_option maxRecDepth 100000 in
theorem rChPut_calls (hP : RPlain) (k : Int) (A : Option Addr) (n c : Nat) (cs : List Int) (w : World) (hk : 0 ≤ k ∧ k ≤ 255) (hR : Rd w .u8 A n cs) (hA : A = none → n = 0 ∧ c = 0) (hcs : ∀ x ∈ cs, 0 ≤ x ∧ x ≤ 255) (hn : n ≤ 90000000) :
    Calls Tryd.prog 12 #[.int .i64 k, .slice A n c] w fun e w' => ∃ v, e = .returned v ∧ Hid (w'.ownsRow w.heap.size 5 1 v (chunkB k cs).length (ints .u8 (chunkB k cs))) ∧ Below w.heap.size w w' := by
  have HR := Lib.hid hR
  have HA := Lib.hid hA
  have Hcs := Lib.hid hcs
  have Hl := Lib.hid hR.1
  have HP := Lib.hid hP
  have hl10 := lebU_10 (n := n) (by omega)
  obtain ⟨ln, hln⟩ : ∃ ln, ln = (lebU n).length := ⟨_, rfl⟩
  rw [← hln] at hl10
  have Hln := Lib.hid hln
  clear hR hA hcs hP hln
  go_enter Tryd.func12, Tryd.ntmps12
  have hwk : IntKind.u8.wrap k = k := by rw [IntKind.wrap_u8]; omega
  go_wp2_with fail
  refine (rU_calls (n + 1) n _ (by omega) (by omega)).mono ?_
  rintro e w1 ⟨v1, rfl, ho1, hb1⟩
  obtain ⟨A1, c1, e1, hc1, hr1⟩ := own_rd ho1
  subst e1
  have hnn1 := own_none ho1
  rw [← Hln.out] at hr1 hnn1 hc1 ⊢
  have hbk : Below w.heap.size w w1 := below_seq ((Below.refl _ _).alloc (Nat.le_refl _) _) (Nat.le_refl _) hb1
  have hol := own_below (own_lit1 w .u8 k 5) hb1
  have Hr1 := Lib.hid hr1
  have Hnn1 := Lib.hid hnn1
  have HB1 := Lib.hid hbk
  have HOl := Lib.hid hol
  have hs1 := hbk.size
  clear ho1 hb1 hr1 hnn1 hbk hol
  go_wp2_with (first
    | (at_builtin; refine wpList_appRd rfl _ _ rfl elBy HOl.out rfl rfl Hr1.out Hnn1.out (by omega) hs1 ?_; intro v2 w2 ho2 hg2; have hb2 : Below w.heap.size w w2 := HB1.out.grown hg2 hs1 (fun k hk => (HOl.out.lt k hk).1); have hs2 := hb2.size; have HO2 := Lib.hid ho2; have HB2 := Lib.hid hb2; clear ho2 hg2 hb2)
    | (at_builtin; refine wpList_appRd rfl _ _ rfl elBy HO2.out rfl rfl (HR.out.below HB2.out) HA.out (by omega) hs2 ?_; intro v3 w3 ho3 hg3; have hb3 : Below w.heap.size w w3 := HB2.out.grown hg3 hs2 (fun k hk => (HO2.out.lt k hk).1); have HO3 := Lib.hid ho3; have HB3 := Lib.hid hb3; obtain ⟨A3, c3, rfl⟩ := own_slice ho3; clear ho3 hg3 hb3))
  have htl : [k] ++ lebU n ++ cs = tailB k cs := by unfold tailB; rw [Hl.out]; simp
  obtain ⟨M, hM⟩ : ∃ M, M = 1 + ln + n := ⟨_, rfl⟩
  rw [htl, ← hM] at HO3
  rw [← hM]
  obtain ⟨_, _, ea, hc3, hr3⟩ := own_rd HO3.out
  cases ea
  have htb : ∀ x ∈ tailB k cs, 0 ≤ x ∧ x ≤ 255 := fun x hx => by
    unfold tailB at hx
    rcases List.mem_cons.1 hx with h | h
    · subst h; exact hk
    · rcases List.mem_append.1 h with h | h
      · exact lebU_byte _ x h
      · exact Hcs.out x h
  have Hr3 := Lib.hid hr3
  have Hnn3 := Lib.hid (own_none HO3.out)
  have HM := Lib.hid hM
  have hM9 : M ≤ 100000000 := by omega
  have Htb := Lib.hid htb
  clear htl hM hr3 htb
  go_wp2_with fail
  refine (HP.out A3 M c3 (tailB k cs) w3 Hr3.out Hnn3.out Htb.out hM9).mono ?_
  rintro e w4 ⟨rfl, hb4⟩
  have hdl := shaS_length (tailB k cs)
  obtain ⟨D, hD⟩ : ∃ D, D = shaS (tailB k cs) := ⟨_, rfl⟩
  rw [← hD] at hdl ⊢
  have hsum : sumB k cs = [rd D 0, rd D 1, rd D 2, rd D 3] := by
    unfold sumB
    rw [← hD]
    match D, hdl with
    | a :: b :: c :: d :: _, _ => rfl
  have Hsum := Lib.hid hsum
  have Hdl := Lib.hid hdl
  have HB4 := Lib.hid (below_seq HB3.out (Nat.le_refl _) hb4)
  have Hr4 := Lib.hid (Hr3.out.below hb4)
  clear hD hdl hsum hb4
  go_upto_region 4 with (refine wpList_store_row rfl 52 _ _ rfl w4.heap.size _ rfl rfl 52 _ (heap_alloc_new _ _) (by rw [ints_size, Hdl.out]; kernel_rfl) (by rw [ints_size, Hdl.out]; rfl) (ints_one _ _) ?_)
  obtain ⟨w5, hw5⟩ : ∃ X, X = (w4.alloc (.cells #[.int .u8 0, .int .u8 0, .int .u8 0, .int .u8 0, .int .u8 0, .int .u8 0, .int .u8 0, .int .u8 0, .int .u8 0, .int .u8 0, .int .u8 0, .int .u8 0, .int .u8 0, .int .u8 0, .int .u8 0, .int .u8 0, .int .u8 0, .int .u8 0, .int .u8 0, .int .u8 0, .int .u8 0, .int .u8 0, .int .u8 0, .int .u8 0, .int .u8 0, .int .u8 0, .int .u8 0, .int .u8 0, .int .u8 0, .int .u8 0, .int .u8 0, .int .u8 0] 52)).setRow w4.heap.size (ints .u8 D).toArray := ⟨_, rfl⟩
  obtain ⟨g5, hg5⟩ : ∃ g, g = w4.heap.size := ⟨_, rfl⟩
  have hB5 : Blk w5 g5 52 .u8 D := by
    rw [hw5, hg5]
    exact setRow_heap _ w4.heap.size (ints .u8 (List.replicate 32 0)).toArray (ints .u8 D).toArray 52 _ (heap_alloc_new w4 _)
  have hb5 : Below w4.heap.size w4 w5 := by
    rw [hw5]
    exact ((Below.refl _ _).alloc (Nat.le_refl _) _).trans ⟨rfl, rfl, rfl, by simp, fun i hi => setRow_other _ w4.heap.size i _ (by omega)⟩
  rw [← hw5, ← hg5]
  have z0 := hB5.cell (j := 0) (by rw [Hdl.out]; omega)
  have z1 := hB5.cell (j := 1) (by rw [Hdl.out]; omega)
  have z2 := hB5.cell (j := 2) (by rw [Hdl.out]; omega)
  have z3 := hB5.cell (j := 3) (by rw [Hdl.out]; omega)
  have HB5 := Lib.hid (below_seq HB4.out (Nat.le_refl _) hb5)
  have Hr5 := Lib.hid (Hr4.out.below hb5)
  have hs5 : w.heap.size ≤ w5.heap.size := HB5.out.size
  clear hw5 hg5 hB5 hb5
  go_wp2_with (at_builtin; refine wpList_appRd rfl _ _ rfl elBy (ys := [133, 111, 74, 131, rd D 0, rd D 1, rd D 2, rd D 3]) (World.ownsRow_lit w5 #[.int .u8 133, .int .u8 111, .int .u8 74, .int .u8 131, .int .u8 (rd D 0), .int .u8 (rd D 1), .int .u8 (rd D 2), .int .u8 (rd D 3)] 8 (Nat.le_refl _) (by decide) rfl) rfl rfl (Hr5.out.alloc _) Hnn3.out (by omega) (by simp) ?_; intro v6 w6 ho6 hg6; have hb6 : Below w5.heap.size w5 w6 := ((Below.refl _ _).alloc (Nat.le_refl _) _).grown hg6 (by simp) (fun k hk => by simp [Value.ownBlock] at hk; omega); have HO6 := Lib.hid ho6; have HB6 := Lib.hid (below_seq HB5.out (Nat.le_refl _) hb6); clear ho6 hg6 hb6)
  go_ret
  have h9 := own_mono HO6.out hs5
  have e9 : [133, 111, 74, 131, rd D 0, rd D 1, rd D 2, rd D 3] ++ tailB k cs = chunkB k cs := by
    unfold chunkB
    rw [Hsum.out]
    rfl
  have l9 := h9.1
  rw [ints_length, e9, Nat.mul_one] at l9
  rw [e9, ← l9] at h9
  exact ⟨_, rfl, Lib.hid h9, HB6.out⟩
end Go.Proofs.YtendohnkhbgfbaaDoor
