/-
  syms.Fixed; SymsFixed.
-/
import Derived.Test.YtempgkglhgelkaaDoorSymsL
import Derived.Test.YtempgkglhgelkaaDoorHuffW
import Derived.Test.YtempgkglhgelkaaDoorC
import Derived.OneCell
import Derived.Deep.RegionWith
import Derived.Deep.Cut
import Derived.Deep.CutRange
import Derived.Deep.CutBlock
namespace Go.Proofs.YtempgkglhgelkaaDoor
open Go.RowKit

theorem elIntF : ElT Tryd.prog 44 3 (.int .i64 0) 1 8 := ⟨Tryd.underlying44, by kernel_rfl, rfl, by decide, by decide⟩
def fixAt (j : Nat) : Int := if j < 144 then 8 else if j < 256 then 9 else if j < 280 then 7 else 8
def fixA : List Int := (List.range 288).map fixAt
def fixB : List Int := List.replicate 32 5
theorem fixA_length : fixA.length = 288 := by simp [fixA]
theorem rd_fixA (j : Nat) (h : j < 288) : rd fixA j = fixAt j := by
  rw [rd_getElem (by rw [fixA_length]; exact h)]
  simp [fixA]
theorem rd_fixB (j : Nat) (h : j < 32) : rd fixB j = 5 := by
  rw [rd_getElem (by unfold fixB; rw [List.length_replicate]; exact h)]
  unfold fixB
  rw [List.getElem_replicate]
theorem right_fixA : rightB fixA = true := by kernel_rfl
theorem right_fixB : rightB fixB = true := by kernel_rfl

set_option maxHeartbeats 1000000 in
set_option maxRecDepth 100000 in
theorem Fixed_calls (w : World) :
    Calls Tryd.prog 23 #[] w fun e w' => ∃ ga gb, e = .returned (.tuple #[.slice (some ⟨ga, 0, none⟩) 288 288, .slice (some ⟨gb, 0, none⟩) 32 32]) ∧
      w'.ownsRow w.heap.size 3 1 (.slice (some ⟨ga, 0, none⟩) 288 288) 288 (ints .i64 fixA) ∧ w'.ownsRow w.heap.size 3 1 (.slice (some ⟨gb, 0, none⟩) 32 32) 32 (ints .i64 fixB) ∧ Below w.heap.size w w' := by
  go_enter Tryd.func23, Tryd.ntmps23
  go_upto_region 1 with fail
  go_cut [2, 3] from 6 to 7 (fun a b wx => ∃ ga gb, ga ≠ gb ∧ a = .slice (some ⟨ga, 0, none⟩) 288 288 ∧ b = .slice (some ⟨gb, 0, none⟩) 32 32 ∧ (∃ la, wx.ownsRow w.heap.size 3 1 a 288 (ints .i64 la)) ∧ (∃ lb, wx.ownsRow w.heap.size 3 1 b 32 (ints .i64 lb)) ∧ Below w.heap.size w wx)
  case first =>
    obtain ⟨oA, la, mA, _, rA⟩ := make_rule elIntF 288 288 rfl (by decide)
    obtain ⟨oB, lb, mB, _, rB⟩ := make_rule elIntF 32 32 rfl (by decide)
    go_wp2
    go_region
    · go_wp2
      go_meet
      exact ⟨w.heap.size, w.heap.size + 1, by omega, by simp, by simp, ⟨la, (rA.out w.drew _ _ rfl (Nat.le_refl _)).alloc _⟩, ⟨lb, rB.out (w.drew.alloc oA) _ _ (by simp) (by omega)⟩, below_new (below_new (Below.refl _ _).drew (Nat.le_refl _) _) (Nat.le_refl _) _⟩
    · go_wp2
      go_meet
      exact ⟨w.heap.size + 1, w.heap.size, by omega, by simp, by simp, ⟨la, rA.out (w.drew.alloc oB) _ _ (by simp) (by omega)⟩, ⟨lb, (rB.out w.drew _ _ rfl (Nat.le_refl _)).alloc _⟩, below_new (below_new (Below.refl _ _).drew (Nat.le_refl _) _) (Nat.le_refl _) _⟩
  case rest =>
    obtain ⟨ga, gb, hne, rfl, rfl, ⟨la, hownA⟩, ⟨lb, hownB⟩, hb⟩ := hcut
    have HA := Lib.hid hownA
    have HB := Lib.hid hownB
    have Hb := Lib.hid hb
    have hs := hb.size
    clear hownA hownB hb
    go_wp2
    go_loopw [10] (fun i wr => ∃ (k : Nat) (l : List Int), k ≤ 288 ∧ i = .int .i64 k ∧ wr.ownsRow w.heap.size 3 1 (.slice (some ⟨ga, 0, none⟩) 288 288) 288 (ints .i64 l) ∧ wr.ownsRow w.heap.size 3 1 (.slice (some ⟨gb, 0, none⟩) 32 32) 32 (ints .i64 lb) ∧ Hid (∀ j, j < k → rd l j = fixAt j) ∧ Below w.heap.size w wr) (fun i _ => 288 - (intOf i).toNat)
    case atStart => exact ⟨0, _, by omega, rfl, HA.out, HB.out, (fun j hj => by omega), Hb.out⟩
    case round =>
      obtain ⟨k, l, hk, rfl, hA, hB, Hl, hbel⟩ := hrel
      have hga := (hA.lt ga rfl).1
      have hll : l.length = 288 := by have := hA.1; simpa [ints] using this
      have HA := Lib.hid hA
      have HB := Lib.hid hB
      have Hbel := Lib.hid hbel
      clear hA hB hbel
      by_cases hlt : k < 288
      · have hf := HA.out.frozenAt k
        have hcell := HA.out.cellAt k (by omega)
        rw [ints_get (by omega)] at hcell
        by_cases h1 : k < 144
        · have hv : fixAt k = 8 := by unfold fixAt; rw [if_pos h1]
          go_wp2
          go_roundw
          case rel =>
            refine ⟨k + 1, l.set k 8, by omega, by go_num, by rw [ints_set]; exact (HA.out.stored k _).1, ownsRow_setCell_other HB.out (by simpa [Value.ownBlock] using hne.symm) _, ?_, Hbel.out.setCell hga _⟩
            intro j hj
            rw [rd_set (by omega)]
            split
            · rename_i e; rw [← e, hv]
            · exact Hl.out j (by omega)
          case measure => simp [intOf]; omega
        · by_cases h2 : k < 256
          · have hv : fixAt k = 9 := by unfold fixAt; rw [if_neg h1, if_pos h2]
            go_wp2
            go_roundw
            case rel =>
              refine ⟨k + 1, l.set k 9, by omega, by go_num, by rw [ints_set]; exact (HA.out.stored k _).1, ownsRow_setCell_other HB.out (by simpa [Value.ownBlock] using hne.symm) _, ?_, Hbel.out.setCell hga _⟩
              intro j hj
              rw [rd_set (by omega)]
              split
              · rename_i e; rw [← e, hv]
              · exact Hl.out j (by omega)
            case measure => simp [intOf]; omega
          · by_cases h3 : k < 280
            · have hv : fixAt k = 7 := by unfold fixAt; rw [if_neg h1, if_neg h2, if_pos h3]
              go_wp2
              go_roundw
              case rel =>
                refine ⟨k + 1, l.set k 7, by omega, by go_num, by rw [ints_set]; exact (HA.out.stored k _).1, ownsRow_setCell_other HB.out (by simpa [Value.ownBlock] using hne.symm) _, ?_, Hbel.out.setCell hga _⟩
                intro j hj
                rw [rd_set (by omega)]
                split
                · rename_i e; rw [← e, hv]
                · exact Hl.out j (by omega)
              case measure => simp [intOf]; omega
            · have hv : fixAt k = 8 := by unfold fixAt; rw [if_neg h1, if_neg h2, if_neg h3]
              go_wp2
              go_roundw
              case rel =>
                refine ⟨k + 1, l.set k 8, by omega, by go_num, by rw [ints_set]; exact (HA.out.stored k _).1, ownsRow_setCell_other HB.out (by simpa [Value.ownBlock] using hne.symm) _, ?_, Hbel.out.setCell hga _⟩
                intro j hj
                rw [rd_set (by omega)]
                split
                · rename_i e; rw [← e, hv]
                · exact Hl.out j (by omega)
              case measure => simp [intOf]; omega
      · obtain rfl : k = 288 := by omega
        have e : l = fixA := ext_rd (by rw [hll, fixA_length]) (fun j hj => by rw [Hl.out j (by omega), rd_fixA j (by omega)])
        subst e
        go_wp2
        obtain ⟨wo, hwo⟩ : ∃ wo : World, wo = wr := ⟨_, rfl⟩
        subst hwo
        go_loopw [37] (fun i wr => ∃ (k : Nat) (l : List Int), k ≤ 32 ∧ i = .int .i64 k ∧ wr.ownsRow w.heap.size 3 1 (.slice (some ⟨ga, 0, none⟩) 288 288) 288 (ints .i64 fixA) ∧ wr.ownsRow w.heap.size 3 1 (.slice (some ⟨gb, 0, none⟩) 32 32) 32 (ints .i64 l) ∧ Hid (∀ j, j < k → rd l j = 5) ∧ Below w.heap.size w wr) (fun i _ => 32 - (intOf i).toNat)
        case atStart => exact ⟨0, _, by omega, rfl, HA.out, HB.out, (fun j hj => by omega), Hbel.out⟩
        case round =>
          obtain ⟨k, l, hk, rfl, hA, hB, Hl, hbel⟩ := hrel
          have hgb := (hB.lt gb rfl).1
          have hll : l.length = 32 := by have := hB.1; simpa [ints] using this
          have HA := Lib.hid hA
          have HB := Lib.hid hB
          have Hbel := Lib.hid hbel
          clear hA hB hbel
          by_cases hlt : k < 32
          · have hf := HB.out.frozenAt k
            have hcell := HB.out.cellAt k (by omega)
            rw [ints_get (by omega)] at hcell
            go_wp2
            go_roundw
            case rel =>
              refine ⟨k + 1, l.set k 5, by omega, by go_num, ownsRow_setCell_other HA.out (by simpa [Value.ownBlock] using hne) _, by rw [ints_set]; exact (HB.out.stored k _).1, ?_, Hbel.out.setCell hgb _⟩
              intro j hj
              rw [rd_set (by omega)]
              split
              · rfl
              · exact Hl.out j (by omega)
            case measure => simp [intOf]; omega
          · obtain rfl : k = 32 := by omega
            have e : l = fixB := ext_rd (by rw [hll]; rfl) (fun j hj => by rw [Hl.out j (by omega), rd_fixB j (by omega)])
            subst e
            go_wp2
            refine bodyPost_ret (v := .tuple #[.slice (some ⟨ga, 0, none⟩) 288 288, .slice (some ⟨gb, 0, none⟩) 32 32]) (by simp [results, Tryd.results23, go_sem]) rfl ⟨_, _, rfl, HA.out, HB.out, Hbel.out⟩
set_option maxHeartbeats 1000000 in
set_option maxRecDepth 100000 in
theorem SymsFixed_calls (n : Int) (w : World) (h0 : 0 ≤ n) (h1 : n ≤ 65535) (hT : Tabs w) :
    Calls Tryd.prog 8 #[.int .u16 n] w fun e w' => e = .returned (.bool true) ∧ Below w.heap.size w w' := by
  have HT := Lib.hid hT
  clear hT
  obtain ⟨k, hk⟩ : ∃ k : Nat, n % 288 = k := ⟨(n % 288).toNat, by omega⟩
  have hk2 : k < 288 := by omega
  obtain ⟨m, hm⟩ : ∃ m : Nat, (k : Int) % 32 = m := ⟨k % 32, by omega⟩
  have hm2 : m < 32 := by omega
  go_enter Tryd.func8, Tryd.ntmps8
  go_wp2_with fail
  refine (awake_calls _ HT.out).mono ?_
  rintro e w1 ⟨rfl, hb1⟩
  have Hb1 := Lib.hid hb1
  clear hb1
  go_wp2_with fail
  refine (Fixed_calls _).mono ?_
  rintro e w2 ⟨ga, gb, rfl, hA, hB, hb2⟩
  have HA := Lib.hid hA
  have HB := Lib.hid hB
  have Hb2 := Lib.hid (below_seq Hb1.out (Nat.le_refl _) hb2)
  clear hA hB hb2 Hb1
  go_wp2_with fail
  obtain ⟨_, _, eA, _, hRA⟩ := own_rd HA.out
  cases eA
  refine (Right_calls _ _ _ _ _ hRA (by decide)).mono ?_
  rintro e w3 ⟨rfl, hb3⟩
  have HA3 := Lib.hid (own_below HA.out hb3)
  have HB3 := Lib.hid (own_below HB.out hb3)
  have Hb3 := Lib.hid (below_seq Hb2.out (Nat.le_refl _) hb3)
  have r1 := right_fixA
  clear hb3 hRA
  rw [r1]
  go_wp2_with fail
  obtain ⟨_, _, eB, _, hRB⟩ := own_rd HB3.out
  cases eB
  refine (Right_calls _ _ _ _ _ hRB (by decide)).mono ?_
  rintro e w4 ⟨rfl, hb4⟩
  have HA4 := Lib.hid (own_below HA3.out hb4)
  have HB4 := Lib.hid (own_below HB3.out hb4)
  have Hb4 := Lib.hid (below_seq Hb3.out (Nat.le_refl _) hb4)
  have r2 := right_fixB
  clear hb4 hRB
  rw [r2]
  have zA := HA4.out.cellAt k (by omega)
  have zB := HB4.out.cellAt m (by omega)
  rw [ints_get (by rw [fixA_length]; exact hk2), rd_fixA k hk2] at zA
  rw [ints_get (by unfold fixB; rw [List.length_replicate]; exact hm2), rd_fixB m hm2] at zB
  have Hk := Lib.hid hk
  have Hm := Lib.hid hm
  by_cases g1 : k < 144
  · have hv : fixAt k = 8 := by unfold fixAt; rw [if_pos g1]
    rw [hv] at zA
    go_wp2
    go_ret
    exact ⟨rfl, Hb4.out⟩
  · by_cases g2 : k < 256
    · have hv : fixAt k = 9 := by unfold fixAt; rw [if_neg g1, if_pos g2]
      rw [hv] at zA
      go_wp2
      go_ret
      exact ⟨rfl, Hb4.out⟩
    · by_cases g3 : k < 280
      · have hv : fixAt k = 7 := by unfold fixAt; rw [if_neg g1, if_neg g2, if_pos g3]
        rw [hv] at zA
        go_wp2
        go_ret
        exact ⟨rfl, Hb4.out⟩
      · have hv : fixAt k = 8 := by unfold fixAt; rw [if_neg g1, if_neg g2, if_neg g3]
        rw [hv] at zA
        go_wp2
        go_ret
        exact ⟨rfl, Hb4.out⟩
theorem SymsFixed_walk (n : Int) (w : World) (h : (Lit.int .u16 n).wf = true) (hT : Tabs w) :
    Calls Tryd.prog 8 #[.int .u16 n] w fun e w' => e = .returned (.bool true) ∧ Below w.heap.size w w' :=
  SymsFixed_calls n w (u16_of_wf h).1 (u16_of_wf h).2 hT
end Go.Proofs.YtempgkglhgelkaaDoor
