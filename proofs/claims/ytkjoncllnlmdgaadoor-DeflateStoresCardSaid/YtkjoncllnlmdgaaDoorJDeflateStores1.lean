/-
  Texts joined into one file: Ref9, Laid, Laid9, DeflateStores.
-/
import Derived.Test.YtkjoncllnlmdgaaDoorJAw917
import Derived.Test.YtkjoncllnlmdgaaDoorJAw92
import Derived.ProofKit
import Derived.LaidMore
import Derived.OpenShut
import Derived.MakeChecks
import Derived.Test.YtkjoncllnlmdgaaDoorJAw916
/-
  The walks of the reference of chapter 09: Agreed, Stored.
-/
namespace Go.Proofs.YtkjoncllnlmdgaaDoor
open Go.RowKit

def fixTo (k : Nat) : List Int := (List.range k).map fixAt
theorem fixTo_succ (k : Nat) : fixTo (k + 1) = fixTo k ++ [fixAt k] := by simp [fixTo, List.range_succ]
theorem fixTo_length (k : Nat) : (fixTo k).length = k := by simp [fixTo]
set_option maxHeartbeats 1000000 in
set_option maxRecDepth 100000 in
theorem Agreed_calls (w : World) :
    Calls Tryd.prog 57 #[] w fun e w' => ∃ A c B d, e = .returned (.tuple #[.slice A 288 c, .slice B 32 d]) ∧ Hid (Rd w' .i64 A 288 fixA) ∧ Hid (Rd w' .i64 B 32 fixB) ∧ (288 ≤ c ∧ 32 ≤ d) ∧ Below w.heap.size w w' := by
  go_enter Tryd.func57, Tryd.ntmps57
  go_wp2
  go_loopw [2, 4] (fun v i wr => ∃ k : Nat, k ≤ 288 ∧ i = .int .i64 k ∧ Hid (wr.ownsRow w.heap.size 3 1 v k (ints .i64 (fixTo k))) ∧ Hid (Below w.heap.size w wr)) (fun _ i _ => 288 - (intOf i).toNat)
  case atStart => exact ⟨0, by omega, rfl, World.ownsRow_nil _ _ _ _, Below.refl _ _⟩
  case round =>
    obtain ⟨k, hk, rfl, HO, HB⟩ := hrel
    have hszr := HB.out.size
    by_cases hlt : k < 288
    · have hs := fixTo_succ k
      by_cases h1 : k < 144
      · have e1 : fixAt k = 8 := by unfold fixAt; rw [if_pos h1]
        rw [e1] at hs
        have Hs := Lib.hid hs
        have t1 : ¬ (144 : Int) ≤ k := by omega
        have t2 : ¬ (256 : Int) ≤ k := by omega
        clear hs e1
        go_wp2_with (at_builtin; refine wpList_app2 rfl _ _ rfl elIntN (HO.out) rfl rfl rfl (by simp) rfl (by omega) (by omega) ?_; intro v' w' hown' hbel' _)
        go_roundw
        case rel => exact ⟨k + 1, by omega, by go_num, by rw [Hs.out, ints_append]; exact hown', HB.out.trans hbel'⟩
        case measure => simp [intOf]; omega
      · by_cases h2 : k < 256
        · have e1 : fixAt k = 9 := by unfold fixAt; rw [if_neg h1, if_pos h2]
          rw [e1] at hs
          have Hs := Lib.hid hs
          have t1 : (144 : Int) ≤ k := by omega
          have t3 : (k : Int) ≤ 255 := by omega
          have t2 : ¬ (256 : Int) ≤ k := by omega
          clear hs e1
          go_wp2_with (at_builtin; refine wpList_app2 rfl _ _ rfl elIntN (HO.out) rfl rfl rfl (by simp) rfl (by omega) (by omega) ?_; intro v' w' hown' hbel' _)
          go_roundw
          case rel => exact ⟨k + 1, by omega, by go_num, by rw [Hs.out, ints_append]; exact hown', HB.out.trans hbel'⟩
          case measure => simp [intOf]; omega
        · by_cases h3 : k < 280
          · have e1 : fixAt k = 7 := by unfold fixAt; rw [if_neg h1, if_neg h2, if_pos h3]
            rw [e1] at hs
            have Hs := Lib.hid hs
            have t1 : (144 : Int) ≤ k := by omega
            have t3 : ¬ (k : Int) ≤ 255 := by omega
            have t2 : (256 : Int) ≤ k := by omega
            have t4 : (k : Int) ≤ 279 := by omega
            clear hs e1
            go_wp2_with (at_builtin; refine wpList_app2 rfl _ _ rfl elIntN (HO.out) rfl rfl rfl (by simp) rfl (by omega) (by omega) ?_; intro v' w' hown' hbel' _)
            go_roundw
            case rel => exact ⟨k + 1, by omega, by go_num, by rw [Hs.out, ints_append]; exact hown', HB.out.trans hbel'⟩
            case measure => simp [intOf]; omega
          · have e1 : fixAt k = 8 := by unfold fixAt; rw [if_neg h1, if_neg h2, if_neg h3]
            rw [e1] at hs
            have Hs := Lib.hid hs
            have t1 : (144 : Int) ≤ k := by omega
            have t3 : ¬ (k : Int) ≤ 255 := by omega
            have t2 : (256 : Int) ≤ k := by omega
            have t4 : ¬ (k : Int) ≤ 279 := by omega
            clear hs e1
            go_wp2_with (at_builtin; refine wpList_app2 rfl _ _ rfl elIntN (HO.out) rfl rfl rfl (by simp) rfl (by omega) (by omega) ?_; intro v' w' hown' hbel' _)
            go_roundw
            case rel => exact ⟨k + 1, by omega, by go_num, by rw [Hs.out, ints_append]; exact hown', HB.out.trans hbel'⟩
            case measure => simp [intOf]; omega
    · obtain rfl : k = 288 := by omega
      obtain ⟨W1, hW1⟩ : ∃ W, W = wr := ⟨_, rfl⟩
      subst hW1
      obtain ⟨A1, c1, rfl, hc1, hr1⟩ := own_rd HO.out
      have Hr1 := Lib.hid hr1
      clear hr1
      go_wp2
      go_loopw [3, 6] (fun v i wr => ∃ k : Nat, k ≤ 32 ∧ i = .int .i64 k ∧ Hid (wr.ownsRow W1.heap.size 3 1 v k (ints .i64 (List.replicate k 5))) ∧ Hid (Below W1.heap.size W1 wr)) (fun _ i _ => 32 - (intOf i).toNat)
      case atStart => exact ⟨0, by omega, rfl, World.ownsRow_nil _ _ _ _, Below.refl _ _⟩
      case round =>
        obtain ⟨k, hk, rfl, HO2, HB2⟩ := hrel
        have hszr2 := HB2.out.size
        by_cases hlt : k < 32
        · have hs : List.replicate (k + 1) (5 : Int) = List.replicate k 5 ++ [5] := List.replicate_succ'
          have Hs := Lib.hid hs
          clear hs
          go_wp2_with (at_builtin; refine wpList_app2 rfl _ _ rfl elIntN (HO2.out) rfl rfl rfl (by simp) rfl (by omega) (by omega) ?_; intro v' w' hown' hbel' _)
          go_roundw
          case rel => exact ⟨k + 1, by omega, by go_num, by rw [Hs.out, ints_append]; exact hown', HB2.out.trans hbel'⟩
          case measure => simp [intOf]; omega
        · obtain rfl : k = 32 := by omega
          obtain ⟨A2, c2, rfl, hc2, hr2⟩ := own_rd HO2.out
          have Hr2 := Lib.hid hr2
          clear hr2
          go_wp2
          go_ret2
          exact ⟨A1, c1, A2, c2, rfl, Hr1.out.below HB2.out, Hr2.out, ⟨hc1, hc2⟩, below_seq HB.out (Nat.le_refl _) HB2.out⟩
theorem stoB_last {f : Nat} {b : List Int} (h : b.length ≤ 65535) : stoB (f + 1) b = [1, ((b.length % 256 : Nat) : Int), ((b.length / 256 : Nat) : Int), ((255 - b.length % 256 : Nat) : Int), ((255 - b.length / 256 : Nat) : Int)] ++ b := by rw [stoB, if_pos h]
theorem stoB_more {f : Nat} {b : List Int} (h : ¬ b.length ≤ 65535) : stoB (f + 1) b = [0, 255, 255, 0, 0] ++ b.take 65535 ++ stoB f (b.drop 65535) := by rw [stoB, if_neg h]
set_option maxHeartbeats 2000000 in
set_option maxRecDepth 100000 in
theorem rStored_calls (A : Option Addr) (len cap : Nat) (bs : List Int) (w : World) (hR : Rd w .u8 A len bs) (hA : A = none → len = 0 ∧ cap = 0) (hcap : len ≤ cap) (hlen : len ≤ 1000000) :
    Calls Tryd.prog 32 #[.slice A len cap] w fun e w' => ∃ v, e = .returned v ∧ w'.ownsRow w.heap.size 5 1 v (storedB bs).length (ints .u8 (storedB bs)) ∧ Below w.heap.size w w' := by
  have HR := Lib.hid hR
  have HA := Lib.hid hA
  have Hl := Lib.hid hR.1
  clear hR hA
  go_enter Tryd.func32, Tryd.ntmps32
  go_wp2
  go_loopw [0, 3] (fun b v wr => ∃ (d c' : Nat) (A' : Option Addr) (fu : Nat) (done : List Int), d ≤ len ∧ b = .slice A' (len - d) c' ∧ len - d ≤ c' ∧ len - d < fu ∧ done.length ≤ 2 * d ∧ Hid (A' = none → len - d = 0 ∧ c' = 0) ∧ Hid (Rd w .u8 A' (len - d) (bs.drop d)) ∧ Hid (storedB bs = done ++ stoB fu (bs.drop d)) ∧ Hid (wr.ownsRow w.heap.size 5 1 v done.length (ints .u8 done)) ∧ Hid (Below w.heap.size w wr)) (fun b _ _ => lenS b)
  case atStart => exact ⟨0, cap, A, len + 1, [], by omega, rfl, by omega, by omega, by simp, HA.out, HR.out, by unfold storedB; rw [Hl.out]; rfl, World.ownsRow_nil _ _ _ _, Below.refl _ _⟩
  case round =>
    obtain ⟨d, c', A', fu, done, hd, rfl, hc', hfu, hdl, HA', HR', HS, HO, HB⟩ := hrel
    obtain ⟨r, hr⟩ : ∃ r, r = len - d := ⟨_, rfl⟩
    rw [← hr] at hc' hfu HA' HR' ⊢
    have hrl : r + d = len := by omega
    have Hr := Lib.hid hr
    obtain ⟨f, rfl⟩ : ∃ f, fu = f + 1 := ⟨fu - 1, by omega⟩
    have hszr := HB.out.size
    have HR2 := Lib.hid (HR'.out.below HB.out)
    have hS := HS.out
    clear hr
    by_cases hlast : r ≤ 65535
    · rw [stoB_last (f := f) (b := bs.drop d) (by rw [List.length_drop, Hl.out]; omega), show (bs.drop d).length = r from by rw [List.length_drop, Hl.out]; omega] at hS
      have HS2 := Lib.hid hS
      have e7 := Lib.hid (show [1, (r : Int) % 256, (r : Int) / 256, 255 - (r : Int) % 256, 255 - (r : Int) / 256] = [1, ((r % 256 : Nat) : Int), ((r / 256 : Nat) : Int), ((255 - r % 256 : Nat) : Int), ((255 - r / 256 : Nat) : Int)] by
        rw [show ((r % 256 : Nat) : Int) = (r : Int) % 256 from by omega, show ((r / 256 : Nat) : Int) = (r : Int) / 256 from by omega, show ((255 - r % 256 : Nat) : Int) = 255 - (r : Int) % 256 from by omega, show ((255 - r / 256 : Nat) : Int) = 255 - (r : Int) / 256 from by omega])
      clear hS
      go_wp2_with (first
        | (at_builtin; refine wpList_appRd rfl _ _ rfl elB (HO.out.alloc _) rfl rfl (zs := [1, (r : Int) % 256, (r : Int) / 256, 255 - (r : Int) % 256, 255 - (r : Int) / 256]) (Blk.rd (heap_alloc_new wr _) rfl) (fun e => by cases e) (by omega) (by simp; omega) ?_; intro v1 w1 hown1 hg1; have HO1 := Lib.hid hown1; have hb1 : Below w.heap.size wr w1 := ((Below.refl _ _).alloc hszr _).grown hg1 (by simp; omega) (fun k hk => (HO.out.lt k hk).1); have HB1 := Lib.hid (HB.out.trans hb1); have HRt1 := Lib.hid (HR'.out.below HB1.out); have hsz1 := hb1.size; clear hown1 hg1 hb1)
        | (at_builtin; refine wpList_appRd rfl _ _ rfl elB HO1.out rfl rfl HRt1.out HA'.out (by omega) (by omega) ?_; intro v2 w2 hown2 hg2; have HO2 := Lib.hid hown2; have HB2 := Lib.hid (HB1.out.grown hg2 HB1.out.size (fun k hk => (HO1.out.lt k hk).1)); clear hown2 hg2))
      go_ret
      have hS3 : storedB bs = done ++ [1, (r : Int) % 256, (r : Int) / 256, 255 - (r : Int) % 256, 255 - (r : Int) / 256] ++ bs.drop d := by rw [HS2.out, e7.out, List.append_assoc]
      have hl3 : (storedB bs).length = done.length + 5 + r := by rw [hS3, List.length_append, List.length_append, List.length_drop, Hl.out]; show done.length + 5 + _ = _; omega
      exact ⟨_, rfl, by rw [hl3, hS3]; exact HO2.out, HB2.out⟩
    · rw [stoB_more (f := f) (b := bs.drop d) (by rw [List.length_drop, Hl.out]; omega), List.drop_drop] at hS
      have HS2 := Lib.hid hS
      clear hS
      obtain ⟨ab, ao, rfl, _⟩ := HR'.out.2 (by omega)
      have hc65 : (65535 : Int) ≤ (c' : Int) := by omega
      have hd65 : (65535 : Int) < (c' : Int) := by omega
      have HRd := Lib.hid (rd_drop0 HR'.out 65535 (by omega))
      clear HR2
      go_wp2_with (first
        | (at_builtin; refine wpList_appRd rfl _ _ rfl elB (HO.out.alloc _) rfl rfl (zs := [0, 255, 255, 0, 0]) (Blk.rd (heap_alloc_new wr _) rfl) (fun e => by cases e) (by omega) (by simp; omega) ?_; intro v1 w1 hown1 hg1; have HO1 := Lib.hid hown1; have hb1 : Below w.heap.size wr w1 := ((Below.refl _ _).alloc hszr _).grown hg1 (by simp; omega) (fun k hk => (HO.out.lt k hk).1); have HB1 := Lib.hid (HB.out.trans hb1); have HRt1 := Lib.hid (rd_take0 (HR'.out.below HB1.out) 65535 (by omega)); have hsz1 := hb1.size; clear hown1 hg1 hb1)
        | (at_builtin; refine wpList_appRd rfl _ _ rfl elB HO1.out rfl rfl HRt1.out (fun e => by cases e) (by omega) (by omega) ?_; intro v2 w2 hown2 hg2; have HO2 := Lib.hid hown2; have HB2 := Lib.hid (HB1.out.grown hg2 HB1.out.size (fun k hk => (HO1.out.lt k hk).1)); clear hown2 hg2))
      have hl2 := Lib.hid (show (done ++ [0, 255, 255, 0, 0] ++ (bs.drop d).take 65535).length = done.length + 5 + 65535 by rw [List.length_append, List.length_append, List.length_take, List.length_drop, Hl.out, Nat.min_eq_left (by omega)]; rfl)
      have e6 := Lib.hid (show r - 65535 = len - (d + 65535) by omega)
      go_roundw
      case rel => exact ⟨d + 65535, c' - 65535, some ⟨ab, ao + 65535, none⟩, f, done ++ [0, 255, 255, 0, 0] ++ (bs.drop d).take 65535, by omega, by rw [← e6.out], by omega, by omega, by rw [hl2.out]; omega, (fun e => by cases e), by rw [← e6.out, ← List.drop_drop]; exact HRd.out, Lib.hid (by rw [HS2.out]; simp only [List.append_assoc]), by rw [hl2.out]; exact HO2.out, HB2.out⟩
      case measure => simp [lenS]; omega
end Go.Proofs.YtkjoncllnlmdgaaDoor
/-
  What the rows' condition on the listed tables gives the walks: the tables' cells.
-/
namespace Go.Proofs.YtkjoncllnlmdgaaDoor
open Go.RowKit

/-- An array of pairs of numbers that reads as rows holds them, two cells a row. -/
theorem pairs_of_trod {H : Type} {enc : TypeId × Value → H} {P : Program} {w : World} {base : Nat} {sp : Nat → Bool} {held : Bool} {fuel t e n : Nat} {f0 f1 : Field} {cs : List Value} {rows : List (Int × Int)} {p : List MemPlace}
    (ht : P.underlying t = some (.array n e)) (he : P.underlying e = some (.struct #[f0, f1])) (o0 : f0.offset = 0) (o1 : f1.offset = 1) (k0 : P.underlying f0.type = some (.int .i64)) (k1 : P.underlying f1.type = some (.int .i64))
    (c0 : P.cellsOf f0.type = 1) (c1 : P.cellsOf f1.type = 1) (ce : P.cellsOf e = 2)
    (h : DataW.trod enc P w base sp held fuel t cs = some (.agg (rows.map fun r => .agg [.lit (.int .i64 r.1), .lit (.int .i64 r.2)]), p)) :
    ∀ j, j < rows.length → cs[j * 2]? = some (.int .i64 (rowL rows j)) ∧ cs[j * 2 + 1]? = some (.int .i64 (rowB rows j)) := by
  obtain ⟨xs, m, rfl, hx, hlen, hn, hel⟩ := DataW.trod_array ht h
  simp only [Prod.mk.injEq, DataW.agg.injEq] at hx
  intro j hj
  have hxl : xs.length = rows.length := by have := congrArg List.length hx.1; simpa using this.symm
  have hz := hel j (by omega)
  obtain ⟨x, hxj⟩ : ∃ x, xs[j]? = some x := ⟨xs[j]'(by omega), by simp [List.getElem?_eq_getElem (show j < xs.length by omega)]⟩
  rw [hxj, ce] at hz
  obtain ⟨y0, y1, n', hxe, hl, h0, h1⟩ := ChangeShapes.trod_struct2 he hz
  obtain ⟨r0, e0, f0', _⟩ := DataW.trod_int k0 h0
  obtain ⟨r1, e1, f1', _⟩ := DataW.trod_int k1 h1
  rw [o0, c0] at e0
  rw [o1, c1] at e1
  have hx1 : x.1 = (DataW.agg [DataW.lit (.int .i64 (rowL rows j)), DataW.lit (.int .i64 (rowB rows j))] : DataW H) := by
    have := congrArg (·[j]?) hx.1
    simp only [List.getElem?_map, hxj, Option.map_some, List.getElem?_eq_getElem hj] at this
    unfold rowL rowB
    rw [List.getD_eq_getElem?_getD, List.getElem?_eq_getElem hj]
    exact (Option.some.inj this).symm
  rw [hxe, f0', f1'] at hx1
  simp at hx1
  obtain ⟨hx1, hx2⟩ := hx1
  subst hx1 hx2
  have g0 := congrArg (·[0]?) e0
  have g1 := congrArg (·[0]?) e1
  simp [List.getElem?_drop] at g0 g1
  exact ⟨g0, g1⟩

theorem gLens : Tryd.prog.globalNamed "inkwell/syms.lengths" = some 1 := by kernel_rfl
theorem gDists : Tryd.prog.globalNamed "inkwell/syms.distances" = some 2 := by kernel_rfl
theorem tLens : (Tryd.prog.globals[1]?).map (·.type) = some 155 := by kernel_rfl
theorem tDists : (Tryd.prog.globals[2]?).map (·.type) = some 156 := by kernel_rfl

theorem tabs_of_laid {W : World} (h : laidMetH Tryd.prog [("inkwell/syms.lengths", Rows.laid_inkwell_syms_lengths), ("inkwell/syms.distances", Rows.laid_inkwell_syms_distances)] W) : Tabs W := by
  rw [MakeChecks.laidMetH_plain _ _ _ (by kernel_rfl)] at h
  obtain ⟨ps, ⟨g0, t0, cs0, n0, p0, q0, hg0, ht0, hv0, hd0, ⟨g1, t1, cs1, n1, p1, q1, hg1, ht1, hv1, hd1, _, _⟩, _⟩, _, _⟩ := h
  obtain rfl := Option.some.inj (gLens.symm.trans hg0)
  obtain rfl := Option.some.inj (gDists.symm.trans hg1)
  obtain rfl := Option.some.inj (tLens.symm.trans ht0)
  obtain rfl := Option.some.inj (tDists.symm.trans ht1)
  have u0 := pairs_of_trod (rows := lens) Tryd.underlying155 Tryd.underlying154 rfl rfl Tryd.underlying3 Tryd.underlying3 (by kernel_rfl) (by kernel_rfl) (by kernel_rfl) hd0
  have u1 := pairs_of_trod (rows := dists) Tryd.underlying156 Tryd.underlying154 rfl rfl Tryd.underlying3 Tryd.underlying3 (by kernel_rfl) (by kernel_rfl) (by kernel_rfl) hd1
  refine ⟨fun j hj => ?_, fun j hj => ?_⟩
  · have := u0 j hj
    simp only [Array.getElem?_toList] at this
    rw [World.var?_cell hg0 hv0, World.var?_cell hg0 hv0]
    exact this
  · have := u1 j hj
    simp only [Array.getElem?_toList] at this
    rw [World.var?_cell hg1 hv1, World.var?_cell hg1 hv1]
    exact this
end Go.Proofs.YtkjoncllnlmdgaaDoor
/-
  What the rows' condition on the three listed tables gives the walks; small facts on rows.
-/
namespace Go.Proofs.YtkjoncllnlmdgaaDoor
open Go.RowKit

def Tabs9 (w : World) : Prop := Tabs w ∧ OrdAt w
theorem tabs9_of_laid {W : World} (h : laidMetH Tryd.prog [("inkwell/syms.lengths", Rows.laid_inkwell_syms_lengths), ("inkwell/syms.distances", Rows.laid_inkwell_syms_distances), ("inkwell/codes.order", Rows.laid_inkwell_codes_order)] W) : Tabs9 W := by
  rw [MakeChecks.laidMetH_plain _ _ _ (by kernel_rfl)] at h
  obtain ⟨ps, ⟨g0, t0, cs0, n0, p0, q0, hg0, ht0, hv0, hd0, ⟨g1, t1, cs1, n1, p1, q1, hg1, ht1, hv1, hd1, ⟨g2, t2, cs2, n2, p2, q2, hg2, ht2, hv2, hd2, _, _⟩, _⟩, _⟩, _, _⟩ := h
  obtain rfl := Option.some.inj (gLens.symm.trans hg0)
  obtain rfl := Option.some.inj (gDists.symm.trans hg1)
  obtain rfl := Option.some.inj (gOrd.symm.trans hg2)
  obtain rfl := Option.some.inj (tLens.symm.trans ht0)
  obtain rfl := Option.some.inj (tDists.symm.trans ht1)
  obtain rfl := Option.some.inj (tOrd.symm.trans ht2)
  have u0 := pairs_of_trod (rows := lens) Tryd.underlying155 Tryd.underlying154 rfl rfl Tryd.underlying3 Tryd.underlying3 (by kernel_rfl) (by kernel_rfl) (by kernel_rfl) hd0
  have u1 := pairs_of_trod (rows := dists) Tryd.underlying156 Tryd.underlying154 rfl rfl Tryd.underlying3 Tryd.underlying3 (by kernel_rfl) (by kernel_rfl) (by kernel_rfl) hd1
  have u2 := ints_of_trod (nums := ordI) Tryd.underlying65 Tryd.underlying3 (by kernel_rfl) hd2
  refine ⟨⟨fun j hj => ?_, fun j hj => ?_⟩, fun j hj => ?_⟩
  · have := u0 j hj
    simp only [Array.getElem?_toList] at this
    rw [World.var?_cell hg0 hv0, World.var?_cell hg0 hv0]
    exact this
  · have := u1 j hj
    simp only [Array.getElem?_toList] at this
    rw [World.var?_cell hg1 hv1, World.var?_cell hg1 hv1]
    exact this
  · have := u2 j hj
    simp only [Array.getElem?_toList] at this
    rw [World.var?_cell hg2 hv2, this, rd_ordI j hj]
theorem row_none {w : World} {k : IntKind} {A : Option Addr} {len cap : Nat} {zs : List Int} (hz : IsRow k w A len cap zs) : A = none → len = 0 ∧ cap = 0 := by
  intro e
  rcases hz with ⟨_, h1, h2, _⟩ | ⟨x, rfl, _⟩
  · exact ⟨h1, h2⟩
  · cases e
theorem row_cap {w : World} {k : IntKind} {A : Option Addr} {len cap : Nat} {zs : List Int} (hz : IsRow k w A len cap zs) : len ≤ cap := by
  rcases hz with ⟨_, h1, h2, _⟩ | ⟨x, rfl, h, _⟩
  · omega
  · exact h
end Go.Proofs.YtkjoncllnlmdgaaDoor
/-
  The walk of the law DeflateStores.
-/
namespace Go.Proofs.YtkjoncllnlmdgaaDoor
open Go.RowKit

set_option maxHeartbeats 1000000 in
set_option maxRecDepth 100000 in
theorem DeflateStores_calls (n c : Int) (w : World) (hn : 0 ≤ n ∧ n ≤ 4294967295) (hc : 0 ≤ c ∧ c ≤ 255) (hL : Tabs9 w) :
    Calls Tryd.prog 8 #[.int .u32 n, .int .u8 c] w fun e w' => e = .returned (.bool true) ∧ Below w.heap.size w w' := by
  have HT := Lib.hid hL.1
  have HO := Lib.hid hL.2
  obtain ⟨hn0, hn1⟩ := hn
  obtain ⟨hc0, hc1⟩ := hc
  obtain ⟨k, hk⟩ : ∃ k : Nat, n % 200000 = k := ⟨(n % 200000).toNat, by omega⟩
  have hk6 : k ≤ 200000 := by omega
  have HK := Lib.hid hk
  clear hL hk
  go_enter Tryd.func8, Tryd.ntmps8
  go_wp2_with fail
  refine (awake9_calls _ HT.out HO.out).mono ?_
  rintro e w1 ⟨rfl, hb1⟩
  have Hb1 := Lib.hid hb1
  have hs1 := hb1.size
  clear hb1
  go_upto_region 4 with fail
  rw [HK.out]
  go_wp2_with (at_make; refine wpList_mk1 (base := w.heap.size) (n := k) _ rfl _ _ rfl elB rfl rfl rfl rfl (by omega) (by omega) ?_; intro w2 hown2 hb2 hsz2; have Hown2 := Lib.hid hown2; have Hb2 := Lib.hid hb2; clear hown2 hb2)
  go_loopw [7] (fun i wr => ∃ (j : Nat) (L : List Int), j ≤ k ∧ i = .int .i64 j ∧ L.length = k ∧ Hid (∀ x ∈ L, 0 ≤ x ∧ x ≤ 255) ∧ Hid (wr.ownsRow w.heap.size 5 1 (.slice (some ⟨w1.heap.size, 0, none⟩) k k) k (ints .u8 L)) ∧ Hid (Below w1.heap.size w1 wr)) (fun i _ => k - (intOf i).toNat)
  case atStart => exact ⟨0, List.replicate k 0, by omega, rfl, List.length_replicate, (fun x hx => by rw [List.eq_of_mem_replicate hx]; omega), Hown2.out, Hb2.out⟩
  case round =>
    obtain ⟨j, L, hj, rfl, hLl, HL, HO2, HB2⟩ := hrel
    by_cases hlt : j < k
    · have z := HO2.out.cellAt j (by omega)
      rw [ints_get (by omega)] at z
      have f0 := HO2.out.frozenAt j
      obtain ⟨y, hy⟩ : ∃ y, y = rd L j := ⟨_, rfl⟩
      rw [← hy] at z
      have HLl := Lib.hid hLl
      clear hy hLl
      go_wp2
      go_roundw
      case rel =>
        refine ⟨j + 1, L.set j ((c + (j : Int) / 7) % 256), by omega, by go_num, by rw [List.length_set]; exact HLl.out, fun x hx => ?_, ?_, HB2.out.setCell (p := ⟨w1.heap.size, j, none⟩) (Nat.le_refl _) _⟩
        · rcases List.mem_or_eq_of_mem_set hx with h | h
          · exact HL.out x h
          · subst h; omega
        · have h9 := own_store HO2.out j (.int .u8 ((c + (j : Int) / 7) % 256))
          rw [← ints_set] at h9
          exact h9
      case measure => simp [intOf]; omega
    · obtain rfl : j = k := by omega
      obtain ⟨W5, hW5⟩ : ∃ W, W = wr := ⟨_, rfl⟩
      subst hW5
      obtain ⟨k, hjk⟩ : ∃ k, k = j := ⟨_, rfl⟩
      subst hjk
      obtain ⟨_, _, e5, _, hr⟩ := own_rd HO2.out
      cases e5
      have HR := Lib.hid hr
      have HB5 := Lib.hid (below_seq Hb1.out (Nat.le_refl _) HB2.out)
      obtain ⟨m, hm⟩ : ∃ m, m = (storedB L).length := ⟨_, rfl⟩
      have hm0 : 0 < m := by
        rw [hm]
        unfold storedB
        by_cases h : L.length ≤ 65535
        · rw [stoB_last h]; simp
        · rw [stoB_more h]; simp
      have Hm := Lib.hid hm
      obtain ⟨ss, hss⟩ : ∃ s, s = strOfNums (storedB L) := ⟨_, rfl⟩
      have Hss := Lib.hid hss
      have L0 : Later W5 W5.drew := (Later.refl W5).drew
      clear hr hm hss hLl hlt
      go_upto_region 9 with fail
      refine wp_region_noPanic ?_
      refine wp_region_held_drew (S := fun W => Later W5 W) (by kernel_rfl) (L0) (fun hHeld => ?_)
      refine' wpAnyH_take (i := 0) (oi := ⟨_, _, _, _, _, _⟩) (v := _) rfl (by kernel_rfl) (by kernel_rfl) (by kernel_rfl) (fun _ _ _ h => h) (Or.inl ⟨by rfl, ?hya0⟩) (by assumption) ?resta0
      case hya0 => (intro w hSw; (try dsimp only at hSw); go_simp; try with_reducible rfl)
      try simp only [Act.put, List.setIfInBounds_toArray, List.set_cons_zero, List.set_cons_succ]
      refine' wpAnyH_take (i := 3) (oi := ⟨_, _, _, _, _, _⟩) (v := _) rfl (by kernel_rfl) (by kernel_rfl) (by kernel_rfl) (fun _ _ _ h => h) (Or.inl ⟨by rfl, ?hya3⟩) (by assumption) ?resta3
      case hya3 => (intro w hSw; (try dsimp only at hSw); go_simp; try with_reducible rfl)
      try simp only [Act.put, List.setIfInBounds_toArray, List.set_cons_zero, List.set_cons_succ]
      refine wpAnyH_ready (rs := [1]) (by kernel_rfl) (by simp) ?_
      refine AllReadyH.cons (o := ⟨_, _, _, _, _, _⟩) rfl (fun K hK => ?_) AllReadyH.nil
      go_simp
      go_at_call 31
      refine (Stored_calls _ k k L _ (HR.out.below (Later.bel L0)) HL.out (fun e => by cases e) (Nat.le_refl _) (by omega)).mono ?_
      rintro e wA ⟨vA, rfl, hoA, hbA⟩
      have LA : Later W5 wA := Later.step L0 hbA
      obtain ⟨aA, cA, rfl, _, hrA⟩ := own_rd hoA
      rw [← Hm.out] at hrA ⊢
      have HrA := Lib.hid hrA
      clear hrA hoA hbA
      refine hK.out _ _ (LA) (fun hHeldN => ?_)
      clear hK K hHeld
      have hHeld := hHeldN
      clear hHeldN
      try simp only [Act.put, List.setIfInBounds_toArray, List.set_cons_zero, List.set_cons_succ]
      refine wpAnyH_ready (rs := [2, 4]) (by kernel_rfl) (by simp) ?_
      refine AllReadyH.cons (o := ⟨_, _, _, _, _, _⟩) rfl (fun K hK => ?_) (AllReadyH.cons (o := ⟨_, _, _, _, _, _⟩) rfl (fun K hK => ?_) AllReadyH.nil)
      · have cv := conv_rd9 (c := cA) HrA.out hm0
        rw [← Hss.out] at cv
        go_simp
        clear cv
        refine hK.out _ _ (LA) (fun hHeldN => ?_)
        clear hK K hHeld
        have hHeld := hHeldN
        clear hHeldN
        try simp only [Act.put, List.setIfInBounds_toArray, List.set_cons_zero, List.set_cons_succ]
        refine wpAnyH_ready (rs := [4]) (by kernel_rfl) (by simp) ?_
        refine AllReadyH.cons (o := ⟨_, _, _, _, _, _⟩) rfl (fun K hK => ?_) AllReadyH.nil
        go_simp
        go_at_call 32
        refine (rStored_calls _ k k L _ (HR.out.below (Later.bel LA)) (fun e => by cases e) (Nat.le_refl _) (by omega)).mono ?_
        rintro e wB ⟨vB, rfl, hoB, hbB⟩
        have LB : Later W5 wB := Later.step LA hbB
        obtain ⟨aB, cB, rfl, _, hrB⟩ := own_rd hoB
        rw [← Hm.out] at hrB ⊢
        have HrB := Lib.hid hrB
        have HrA' := Lib.hid (HrA.out.below hbB)
        clear hrB hoB hbB
        refine hK.out _ _ (LB) (fun hHeldN => ?_)
        clear hK K hHeld
        have hHeld := hHeldN
        clear hHeldN
        try simp only [Act.put, List.setIfInBounds_toArray, List.set_cons_zero, List.set_cons_succ]
        refine wpAnyH_ready (rs := [5]) (by kernel_rfl) (by simp) ?_
        refine AllReadyH.cons (o := ⟨_, _, _, _, _, _⟩) rfl (fun K hK => ?_) AllReadyH.nil
        have cv := conv_rd9 (c := cB) HrB.out hm0
        rw [← Hss.out] at cv
        go_simp
        clear cv
        refine hK.out _ _ (LB) (fun hHeldN => ?_)
        clear hK K hHeld
        have hHeld := hHeldN
        clear hHeldN
        try simp only [Act.put, List.setIfInBounds_toArray, List.set_cons_zero, List.set_cons_succ]
        refine' wpAnyH_take (i := 6) (oi := ⟨_, _, _, _, _, _⟩) (v := _) rfl (by kernel_rfl) (by kernel_rfl) (by kernel_rfl) (fun _ _ _ h => h) (Or.inl ⟨by rfl, ?hyz1_6⟩) (by assumption) ?restz1_6
        case hyz1_6 => (intro w hSw; (try dsimp only at hSw); go_simp; try with_reducible rfl)
        try simp only [Act.put, List.setIfInBounds_toArray, List.set_cons_zero, List.set_cons_succ]
        refine' wpAnyH_take (i := 7) (oi := ⟨_, _, _, _, _, _⟩) (v := _) rfl (by kernel_rfl) (by kernel_rfl) (by kernel_rfl) (fun _ _ _ h => h) (Or.inl ⟨by rfl, ?hyz1_7⟩) (by assumption) ?restz1_7
        case hyz1_7 => (intro w hSw; (try dsimp only at hSw); go_simp; try with_reducible rfl)
        try simp only [Act.put, List.setIfInBounds_toArray, List.set_cons_zero, List.set_cons_succ]
        refine wpAnyH_done (by kernel_rfl) ?_ _
        refine NoPanic.normal ?_
        go_wp2
        go_ret
        exact ⟨rfl, HB5.out.trans ((Later.bel LB).mono HB5.out.size)⟩
      · go_simp
        go_at_call 32
        refine (rStored_calls _ k k L _ (HR.out.below (Later.bel LA)) (fun e => by cases e) (Nat.le_refl _) (by omega)).mono ?_
        rintro e wB ⟨vB, rfl, hoB, hbB⟩
        have LB : Later W5 wB := Later.step LA hbB
        obtain ⟨aB, cB, rfl, _, hrB⟩ := own_rd hoB
        rw [← Hm.out] at hrB ⊢
        have HrB := Lib.hid hrB
        have HrA' := Lib.hid (HrA.out.below hbB)
        clear hrB hoB hbB
        refine hK.out _ _ (LB) (fun hHeldN => ?_)
        clear hK K hHeld
        have hHeld := hHeldN
        clear hHeldN
        try simp only [Act.put, List.setIfInBounds_toArray, List.set_cons_zero, List.set_cons_succ]
        refine wpAnyH_ready (rs := [2, 5]) (by kernel_rfl) (by simp) ?_
        refine AllReadyH.cons (o := ⟨_, _, _, _, _, _⟩) rfl (fun K hK => ?_) (AllReadyH.cons (o := ⟨_, _, _, _, _, _⟩) rfl (fun K hK => ?_) AllReadyH.nil)
        · have cv := conv_rd9 (c := cA) HrA'.out hm0
          rw [← Hss.out] at cv
          go_simp
          clear cv
          refine hK.out _ _ (LB) (fun hHeldN => ?_)
          clear hK K hHeld
          have hHeld := hHeldN
          clear hHeldN
          try simp only [Act.put, List.setIfInBounds_toArray, List.set_cons_zero, List.set_cons_succ]
          refine wpAnyH_ready (rs := [5]) (by kernel_rfl) (by simp) ?_
          refine AllReadyH.cons (o := ⟨_, _, _, _, _, _⟩) rfl (fun K hK => ?_) AllReadyH.nil
          have cv := conv_rd9 (c := cB) HrB.out hm0
          rw [← Hss.out] at cv
          go_simp
          clear cv
          refine hK.out _ _ (LB) (fun hHeldN => ?_)
          clear hK K hHeld
          have hHeld := hHeldN
          clear hHeldN
          try simp only [Act.put, List.setIfInBounds_toArray, List.set_cons_zero, List.set_cons_succ]
          refine' wpAnyH_take (i := 6) (oi := ⟨_, _, _, _, _, _⟩) (v := _) rfl (by kernel_rfl) (by kernel_rfl) (by kernel_rfl) (fun _ _ _ h => h) (Or.inl ⟨by rfl, ?hyz2_6⟩) (by assumption) ?restz2_6
          case hyz2_6 => (intro w hSw; (try dsimp only at hSw); go_simp; try with_reducible rfl)
          try simp only [Act.put, List.setIfInBounds_toArray, List.set_cons_zero, List.set_cons_succ]
          refine' wpAnyH_take (i := 7) (oi := ⟨_, _, _, _, _, _⟩) (v := _) rfl (by kernel_rfl) (by kernel_rfl) (by kernel_rfl) (fun _ _ _ h => h) (Or.inl ⟨by rfl, ?hyz2_7⟩) (by assumption) ?restz2_7
          case hyz2_7 => (intro w hSw; (try dsimp only at hSw); go_simp; try with_reducible rfl)
          try simp only [Act.put, List.setIfInBounds_toArray, List.set_cons_zero, List.set_cons_succ]
          refine wpAnyH_done (by kernel_rfl) ?_ _
          refine NoPanic.normal ?_
          go_wp2
          go_ret
          exact ⟨rfl, HB5.out.trans ((Later.bel LB).mono HB5.out.size)⟩
        · have cv := conv_rd9 (c := cB) HrB.out hm0
          rw [← Hss.out] at cv
          go_simp
          clear cv
          refine hK.out _ _ (LB) (fun hHeldN => ?_)
          clear hK K hHeld
          have hHeld := hHeldN
          clear hHeldN
          try simp only [Act.put, List.setIfInBounds_toArray, List.set_cons_zero, List.set_cons_succ]
          refine wpAnyH_ready (rs := [2]) (by kernel_rfl) (by simp) ?_
          refine AllReadyH.cons (o := ⟨_, _, _, _, _, _⟩) rfl (fun K hK => ?_) AllReadyH.nil
          have cv := conv_rd9 (c := cA) HrA'.out hm0
          rw [← Hss.out] at cv
          go_simp
          clear cv
          refine hK.out _ _ (LB) (fun hHeldN => ?_)
          clear hK K hHeld
          have hHeld := hHeldN
          clear hHeldN
          try simp only [Act.put, List.setIfInBounds_toArray, List.set_cons_zero, List.set_cons_succ]
          refine' wpAnyH_take (i := 6) (oi := ⟨_, _, _, _, _, _⟩) (v := _) rfl (by kernel_rfl) (by kernel_rfl) (by kernel_rfl) (fun _ _ _ h => h) (Or.inl ⟨by rfl, ?hyz3_6⟩) (by assumption) ?restz3_6
          case hyz3_6 => (intro w hSw; (try dsimp only at hSw); go_simp; try with_reducible rfl)
          try simp only [Act.put, List.setIfInBounds_toArray, List.set_cons_zero, List.set_cons_succ]
          refine' wpAnyH_take (i := 7) (oi := ⟨_, _, _, _, _, _⟩) (v := _) rfl (by kernel_rfl) (by kernel_rfl) (by kernel_rfl) (fun _ _ _ h => h) (Or.inl ⟨by rfl, ?hyz3_7⟩) (by assumption) ?restz3_7
          case hyz3_7 => (intro w hSw; (try dsimp only at hSw); go_simp; try with_reducible rfl)
          try simp only [Act.put, List.setIfInBounds_toArray, List.set_cons_zero, List.set_cons_succ]
          refine wpAnyH_done (by kernel_rfl) ?_ _
          refine NoPanic.normal ?_
          go_wp2
          go_ret
          exact ⟨rfl, HB5.out.trans ((Later.bel LB).mono HB5.out.size)⟩
theorem DeflateStores_walk (n c : Int) (w : World) (h : (Lit.int .u32 n).wf = true) (h2 : (Lit.int .u8 c).wf = true) (hL : Tabs9 w) :
    Calls Tryd.prog 8 #[.int .u32 n, .int .u8 c] w fun e w' => e = .returned (.bool true) ∧ Below w.heap.size w w' := DeflateStores_calls n c w (by simp [Lit.wf, IntKind.min, IntKind.max, IntKind.signed, IntKind.bits] at h; omega) (u8_of_wf h2) hL
end Go.Proofs.YtkjoncllnlmdgaaDoor
