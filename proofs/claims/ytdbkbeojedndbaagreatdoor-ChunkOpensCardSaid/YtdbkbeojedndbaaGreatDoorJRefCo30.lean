/-
  Texts joined into one file: RefLens, CodesR.
-/
import Derived.Test.YtdbkbeojedndbaaGreatDoorJRefCo29
import Derived.Test.YtdbkbeojedndbaaGreatDoorJRefCo16
import Derived.Test.YtdbkbeojedndbaaGreatDoorJRefCo6
import Derived.Test.YtdbkbeojedndbaaGreatDoorJRefCo11
import Derived.IntWalk
import Derived.Deep.Cut
import Derived.Deep.CutRange
import Derived.Deep.CutBlock
namespace Go.Proofs.YtdbkbeojedndbaaGreatDoor
open Go.RowKit

theorem not_all_upto {l : List Int} {m n : Nat} (hl : l.length = n) {F : Bool} (h : F = true ↔ ∀ q, q < n → rd l q ≤ m) (hF : F = false) : ¬ l.all (fun x => decide (x ≤ (m : Int))) = true := fun hc => by
 have : F = true := h.2 (fun q hq => by
  rcases Int.lt_or_le (m : Int) (rd l q) with g | g
  ·exact (not_all_of (by omega) g hc).elim
  ·exact g)
 rw [hF] at this
 cases this
set_option maxHeartbeats 4000000 in
set_option maxRecDepth 200000 in
theorem refLengths_calls (m : Nat) (A : Option Addr) (n cap : Nat) (ws : List Int) (w : World) (hm : 1 ≤ m) (hR : Rd w .i64 A n ws) (hA : A = none → n = 0 ∧ cap = 0) (hn : n ≤ 100000) (hw : ∀ x ∈ ws, 0 ≤ x) (hsum : ws.sum ≤ 4611686018427387904) (hp : (posTo ws ws.length).length ≤ 2 ^ m) :
  Calls Tryz.prog 67 #[.int .i64 m, .slice A n cap] w fun e w' => ∃ v, e = .returned v ∧ w'.ownsRow w.heap.size 3 1 v n (ints .i64 (lensOf m ws)) ∧ Below w.heap.size w w' := by
 have HR := Lib.hid hR
 have hlen := Lib.hid hR.1
 have Hw := Lib.hid hw
 have Hp := Lib.hid hp
 obtain ⟨R, hRR⟩ : ∃ R, lensOf m ws = R := ⟨_, rfl⟩
 rw [hRR]
 have HRR := Lib.hid hRR
 clear hR hw hp hRR
 go_enter Tryz.func67, Tryz.ntmps67
 go_wp2_with (at_builtin; refine wpList_appRd rfl _ _ rfl elIntN (ys := []) (World.ownsRow_lit w #[] 0 (Nat.le_refl _) (by decide) rfl) rfl rfl (HR.out.alloc _) hA (by omega) (by simp) ?_; intro v' w' hown hg; rw [Nat.zero_add, List.nil_append] at hown; have Hown := Lib.hid hown; have Hg := Lib.hid hg; clear hown hg)
 have hsz : w.heap.size ≤ w'.heap.size := by have := Hg.out.size; simp at this; omega
 have hb1 : Below w.heap.size w w' := ((Below.refl _ _).alloc (Nat.le_refl _) _).grown Hg.out (by simp) (fun k hk => by simp [Value.ownBlock] at hk; omega)
 have Hb1 := Lib.hid hb1
 obtain ⟨B, c, rfl⟩ := own_slice Hown.out
 clear hb1 Hg
 go_loopg [] ws.sum.toNat (fun g wr => ∃ wt : List Int, Hid (lensM g m wt = R) ∧ Hid (wt.sum ≤ g) ∧ Hid (∀ x ∈ wt, 0 ≤ x) ∧ Hid ((posTo wt wt.length).length ≤ 2 ^ m) ∧ Hid (wt.length = n) ∧ Hid (wt.sum ≤ 4611686018427387904) ∧ Hid (wr.ownsRow w.heap.size 3 1 (.slice B n c) n (ints .i64 wt)) ∧ Hid (Below w.heap.size w wr))
 case atStart => exact ⟨ws, HRR.out, by have := sum_nonneg' ws Hw.out; show _ ≤ _; omega, Hw.out, Hp.out, hlen.out, hsum, Hown.out, Hb1.out⟩
 case round =>
  obtain ⟨wt, H1, H2, H3, H4, H5, H6, H7, H8⟩ := hrel
  obtain ⟨g, hg⟩ : ∃ g, g = gk := ⟨gk, rfl⟩
  subst hg
  have hol := Lib.hid (onceM_length wt)
  obtain ⟨B', c', e1, hc', hrd⟩ := own_rd H7.out
  cases e1
  have Hrd := Lib.hid hrd
  clear hrd
  go_wp2_with fail
  refine (refOnce_calls B n c wt _ Hrd.out hn H3.out H6.out).mono ?_
  rintro e w1 ⟨v, rfl, ho, hb⟩
  obtain ⟨D, d, rfl, hd, hrdo⟩ := own_rd ho
  have Ho := Lib.hid ho
  have Hb := Lib.hid hb
  have Hrdo := Lib.hid hrdo
  clear ho hb hrdo
  go_wp2
  go_loopg [7, 8] n (fun g2 f i wy => ∃ (j : Nat) (F : Bool), j + g2 = n ∧ f = .bool F ∧ i = .int .i64 j ∧ Hid (F = true ↔ ∀ q, q < j → rd (onceM wt) q ≤ m) ∧ w1 = wy)
  case atStart => exact ⟨0, true, by omega, rfl, rfl, ⟨fun _ q hq => by omega, fun _ => rfl⟩, rfl⟩
  case round =>
   obtain ⟨j, F, hj, rfl, rfl, HF, rfl⟩ := hrel
   by_cases hlt : j < n
   ·obtain ⟨b, o, rfl, hcx⟩ := Hrdo.out.2 (by omega)
    have z := hcx j hlt
    clear hcx
    cases F
    ·go_wp2
     go_roundg (gk - 1)
     case measure => omega
     case rel => exact ⟨j + 1, false, by omega, rfl, by go_num, ⟨fun h => (by cases h), fun h => (by have h9 := HF.out.2 (fun q hq => h q (by omega)); simp at h9)⟩, rfl⟩
    ·rcases Int.lt_or_le (m : Int) (rd (onceM wt) j) with hx | hx
     ·go_wp2
      go_roundg (gk - 1)
      case measure => omega
      case rel => exact ⟨j + 1, false, by omega, by rw [decide_eq_false (by omega)], by go_num, ⟨fun h => (by cases h), fun h => (by have := h j (by omega); omega)⟩, rfl⟩
     ·go_wp2
      go_roundg (gk - 1)
      case measure => omega
      case rel =>
       refine ⟨j + 1, true, by omega, rfl, by go_num, ⟨fun _ q hq => ?_, fun _ => rfl⟩, rfl⟩
       by_cases e : q < j
       ·exact HF.out.1 (by simp) q e
       ·rw [show q = j from by omega]; exact hx
   ·obtain rfl : j = n := by omega
    cases F
    ·have hno := not_all_upto (by rw [hol.out, H5.out]) (F := false) (by simpa using HF.out) rfl
     have hless := halve_less H3.out hm H4.out hno
     have hh0 := (sum_halve wt H3.out).1
     obtain ⟨g', hg'⟩ : ∃ g', g = g' + 1 := ⟨g - 1, by have := H2.out; omega⟩
     have Hstep : Hid (lensM g' m (halve wt) = R) := by
      show lensM g' m (halve wt) = R
      have h9 := H1.out
      rw [hg'] at h9
      unfold lensM at h9
      rw [if_neg hno] at h9
      exact h9
     have Hless := Lib.hid hless
     have Hno := Lib.hid hno
     have Hg' := Lib.hid hg'
     have hrow : w1.ownsRow w.heap.size 3 1 (.slice B j c) j (ints .i64 wt) := own_below H7.out Hb.out
     have Hrow := Lib.hid hrow
     have H9 := Lib.hid (H8.out.trans (Hb.out.mono H8.out.size))
     clear hless hno hg' hh0 hrow
     go_wp2
     go_loopg [9] j (fun g2 i wy => ∃ (q : Nat) (l : List Int), q + g2 = j ∧ i = .int .i64 q ∧ Hid (∀ t, t < j → rd l t = if t < q then rd (halve wt) t else rd wt t) ∧ Hid (wy.ownsRow w.heap.size 3 1 (.slice B j c) j (ints .i64 l)) ∧ Hid (Below w.heap.size w wy))
     case atStart => exact ⟨0, wt, by omega, rfl, fun t ht => by rw [if_neg (by omega)], Hrow.out, H9.out⟩
     case round =>
      obtain ⟨q, l, hq, rfl, Hl, Hor, Hbl⟩ := hrel
      have hll : l.length = j := by have := Hor.out.1; rw [ints_length] at this; omega
      by_cases hqn : q < j
      ·obtain ⟨gb, cb, e1, hb0, hb1, hcb, hcell, hfz⟩ := own_form Hor.out (by omega)
       cases e1
       have z2 := hcell q _ (ints_get (by omega))
       have zf := hfz q
       have hv : rd l q = rd wt q := by rw [Hl.out q hqn, if_neg (by omega)]
       have hrange := nonneg_rd H3.out H6.out q (by rw [H5.out]; exact hqn)
       rw [← hv] at hrange
       have hhv : rd (halve wt) q = (rd l q + 1) / 2 := by rw [rd_halve, hv]
       have Hhv := Lib.hid hhv
       have Hll := Lib.hid hll
       clear hcell hfz hv hhv hll
       go_upto_region 13 with fail
       refine wp_region_last (n := 14) (on := ⟨_, _, _, _, _, _⟩) (S := fun W => W.cell? ⟨gb, q, none⟩ = some (.int .i64 (rd l q))) (by kernel_rfl) rfl (by kernel_rfl) (z2) (fun hHeld => ?_)
       refine' wpAnyH_take (i := 0) (oi := ⟨_, _, _, _, _, _⟩) rfl (by kernel_rfl) (by kernel_rfl) (by kernel_rfl) (fun _ _ _ h => h) (Or.inl ⟨by rfl, ?a0⟩) (by assumption) ?b0
       case a0 => (intro w hSw; (try dsimp only at hSw); go_simp; try with_reducible rfl)
       try simp only [Act.put, List.setIfInBounds_toArray, List.set_cons_zero, List.set_cons_succ]
       refine' wpAnyH_take (i := 1) (oi := ⟨_, _, _, _, _, _⟩) rfl (by kernel_rfl) (by kernel_rfl) (by kernel_rfl) (fun _ _ _ h => h) (Or.inl ⟨by rfl, ?a1⟩) (by assumption) ?b1
       case a1 => (intro w hSw; (try dsimp only at hSw); go_simp; try with_reducible rfl)
       try simp only [Act.put, List.setIfInBounds_toArray, List.set_cons_zero, List.set_cons_succ]
       refine' wpAnyH_take (i := 2) (oi := ⟨_, _, _, _, _, _⟩) rfl (by kernel_rfl) (by kernel_rfl) (by kernel_rfl) (fun _ _ _ h => h) (Or.inl ⟨by rfl, ?a2⟩) (by assumption) ?b2
       case a2 => (intro w hSw; (try dsimp only at hSw); go_simp; try with_reducible rfl)
       try simp only [Act.put, List.setIfInBounds_toArray, List.set_cons_zero, List.set_cons_succ]
       refine' wpAnyH_take (i := 3) (oi := ⟨_, _, _, _, _, _⟩) rfl (by kernel_rfl) (by kernel_rfl) (by kernel_rfl) (fun _ _ _ h => h) (Or.inl ⟨by rfl, ?a3⟩) (by assumption) ?b3
       case a3 => (intro w hSw; (try dsimp only at hSw); go_simp; try with_reducible rfl)
       try simp only [Act.put, List.setIfInBounds_toArray, List.set_cons_zero, List.set_cons_succ]
       refine' wpAnyH_take (i := 4) (oi := ⟨_, _, _, _, _, _⟩) rfl (by kernel_rfl) (by kernel_rfl) (by kernel_rfl) (fun _ _ _ h => h) (Or.inl ⟨by rfl, ?a4⟩) (by assumption) ?b4
       case a4 => (intro w hSw; (try dsimp only at hSw); go_simp; try with_reducible rfl)
       try simp only [Act.put, List.setIfInBounds_toArray, List.set_cons_zero, List.set_cons_succ]
       refine' wpAnyH_take (i := 5) (oi := ⟨_, _, _, _, _, _⟩) rfl (by kernel_rfl) (by kernel_rfl) (by kernel_rfl) (fun _ _ _ h => h) (Or.inl ⟨by rfl, ?a5⟩) (by assumption) ?b5
       case a5 => (intro w hSw; (try dsimp only at hSw); go_simp; try with_reducible rfl)
       try simp only [Act.put, List.setIfInBounds_toArray, List.set_cons_zero, List.set_cons_succ]
       refine' wpAnyH_take (i := 6) (oi := ⟨_, _, _, _, _, _⟩) rfl (by kernel_rfl) (by kernel_rfl) (by kernel_rfl) (fun _ _ _ h => h) (Or.inl ⟨by rfl, ?a6⟩) (by assumption) ?b6
       case a6 => (intro w hSw; (try dsimp only at hSw); go_simp; try with_reducible rfl)
       try simp only [Act.put, List.setIfInBounds_toArray, List.set_cons_zero, List.set_cons_succ]
       refine' wpAnyH_take (i := 7) (oi := ⟨_, _, _, _, _, _⟩) rfl (by kernel_rfl) (by kernel_rfl) (by kernel_rfl) (fun _ _ _ h => h) (Or.inl ⟨by rfl, ?a7⟩) (by assumption) ?b7
       case a7 => (intro w hSw; (try dsimp only at hSw); go_simp; try with_reducible rfl)
       try simp only [Act.put, List.setIfInBounds_toArray, List.set_cons_zero, List.set_cons_succ]
       refine' wpAnyH_take (i := 8) (oi := ⟨_, _, _, _, _, _⟩) rfl (by kernel_rfl) (by kernel_rfl) (by kernel_rfl) (fun _ _ _ h => h) (Or.inl ⟨by rfl, ?a8⟩) (by assumption) ?b8
       case a8 => (intro w hSw; (try dsimp only at hSw); go_simp; try with_reducible rfl)
       try simp only [Act.put, List.setIfInBounds_toArray, List.set_cons_zero, List.set_cons_succ]
       refine' wpAnyH_take (i := 9) (oi := ⟨_, _, _, _, _, _⟩) rfl (by kernel_rfl) (by kernel_rfl) (by kernel_rfl) (fun _ _ _ h => h) (Or.inl ⟨by rfl, ?a9⟩) (by assumption) ?b9
       case a9 => (intro w hSw; (try dsimp only at hSw); go_simp; try with_reducible rfl)
       try simp only [Act.put, List.setIfInBounds_toArray, List.set_cons_zero, List.set_cons_succ]
       refine' wpAnyH_take (i := 10) (oi := ⟨_, _, _, _, _, _⟩) rfl (by kernel_rfl) (by kernel_rfl) (by kernel_rfl) (fun _ _ _ h => h) (Or.inl ⟨by rfl, ?a10⟩) (by assumption) ?b10
       case a10 => (intro w hSw; (try dsimp only at hSw); go_simp; try with_reducible rfl)
       try simp only [Act.put, List.setIfInBounds_toArray, List.set_cons_zero, List.set_cons_succ]
       refine' wpAnyH_take (i := 11) (oi := ⟨_, _, _, _, _, _⟩) rfl (by kernel_rfl) (by kernel_rfl) (by kernel_rfl) (fun _ _ _ h => h) (Or.inl ⟨by rfl, ?a11⟩) (by assumption) ?b11
       case a11 => (intro w hSw; (try dsimp only at hSw); go_simp; try with_reducible rfl)
       try simp only [Act.put, List.setIfInBounds_toArray, List.set_cons_zero, List.set_cons_succ]
       refine' wpAnyH_take (i := 12) (oi := ⟨_, _, _, _, _, _⟩) rfl (by kernel_rfl) (by kernel_rfl) (by kernel_rfl) (fun _ _ _ h => h) (Or.inl ⟨by rfl, ?a12⟩) (by assumption) ?b12
       case a12 => (intro w hSw; (try dsimp only at hSw); go_simp; try with_reducible rfl)
       try simp only [Act.put, List.setIfInBounds_toArray, List.set_cons_zero, List.set_cons_succ]
       refine' wpAnyH_take (i := 13) (oi := ⟨_, _, _, _, _, _⟩) rfl (by kernel_rfl) (by kernel_rfl) (by kernel_rfl) (fun _ _ _ h => h) (Or.inl ⟨by rfl, ?a13⟩) (by assumption) ?b13
       case a13 => (intro w hSw; (try dsimp only at hSw); go_simp; try with_reducible rfl)
       try simp only [Act.put, List.setIfInBounds_toArray, List.set_cons_zero, List.set_cons_succ]
       refine wpAnyH_done (by kernel_rfl) ?_ _
       change wpList _ _ _ _ _ _
       have ev : rd l q / 2 + rd l q % 2 = (rd l q + 1) / 2 := by omega
       go_wp2

       go_roundg (gk - 1)
       case measure => omega
       case rel =>
        refine ⟨q + 1, l.set q ((rd l q + 1) / 2), by omega, by go_num, ?_, ?_, (Hbl.out.setCell (p := ⟨gb, q, none⟩) hb0 _).drew⟩
        ·intro t ht
         rw [rd_set (by rw [Hll.out]; exact hqn), Hl.out t ht]
         by_cases e : q = t
         ·subst e
          rw [if_pos rfl, if_pos (by omega), Hhv.out]
         ·rw [if_neg e]
          by_cases e2 : t < q
          ·rw [if_pos e2, if_pos (by omega)]
          ·rw [if_neg e2, if_neg (by omega)]
        ·show World.ownsRow _ _ _ _ _ _ _
         rw [ints_set]
         exact own_below (own_store Hor.out q _) (Below.refl _ _).drew
      ·obtain rfl : q = j := by omega
       have el : l = halve wt := ext_rd' (by rw [hll, halve_length, H5.out]) (fun t ht => by rw [Hl.out t (by omega), if_pos (by omega)])
       subst el
       go_wp2
       go_roundg g'
       case measure => have := Hg'.out; omega
       case rel => exact ⟨halve wt, Hstep.out, by have := Hless.out; have := H2.out; have := Hg'.out; show _ ≤ _; omega, halve_nonneg H3.out, by rw [halve_length, posTo_halve]; exact H4.out, by rw [halve_length]; exact H5.out, by have := Hless.out; have := H6.out; show _ ≤ _; omega, Hor.out, Hbl.out⟩
    ·have hall : (onceM wt).all (fun x => decide (x ≤ (m : Int))) = true := all_of (fun q hq => HF.out.1 (by simp) q (by rw [hol.out, H5.out] at hq; exact hq))
     have hR : R = onceM wt := by
      rw [← H1.out]
      cases g with
      | zero => rfl
      | succ g => unfold lensM; rw [if_pos hall]
     have HR2 := Lib.hid hR
     clear hall hR
     go_wp2
     try rw [Exit.noGoto_ret]
     go_ret
     rw [HR2.out]
     exact ⟨_, rfl, own_mono Ho.out H8.out.size, H8.out.trans (Hb.out.mono H8.out.size)⟩
end Go.Proofs.YtdbkbeojedndbaaGreatDoor
namespace Go.Proofs.YtdbkbeojedndbaaGreatDoor
open Go.RowKit

theorem elItemR : ElT Tryz.prog 146 148 (.agg #[.int .i64 0, .int .i64 0, .int .u64 0]) 3 24 := ⟨Tryz.underlying146, by kernel_rfl, rfl, by decide, by decide⟩

set_option maxHeartbeats 4000000 in
set_option maxRecDepth 200000 in
theorem refPress_calls (A : Option Addr) (n cap : Nat) (xs : List Int) (w : World) (hR : Rd w .i64 A n xs) (hn : n ≤ 1000000) (hp : ∀ j, j < n → 0 ≤ rd xs j) :
    Calls Tryz.prog 94 #[.slice A n cap] w fun e w' => ∃ v, e = .returned v ∧ w'.ownsRow w.heap.size 148 3 v (items xs).length (itemCells (items xs)) ∧ Below w.heap.size w w' := by
  have Hlen := Lib.hid hR.1
  have HR := Lib.hid hR
  have Hp := Lib.hid hp
  clear hR hp
  go_enter Tryz.func94, Tryz.ntmps94
  go_wp2
  go_loopw [3, 4] (fun v i wr => ∃ (k : Nat) (pre : List Item), k ≤ n ∧ i = .int .i64 k ∧ pre.length ≤ k ∧ wr.ownsRow w.heap.size 148 3 v pre.length (itemCells pre) ∧ Hid (items xs = pre ++ itemsFrom xs xs.length k) ∧ Below w.heap.size w wr) (fun _ i _ => n - (intOf i).toNat)
  case atStart => exact ⟨0, [], by omega, rfl, by simp, World.ownsRow_nil _ _ _ _, rfl, Below.refl _ _⟩
  case round =>
    obtain ⟨k, pre, hk, rfl, hpre, hown, Hit, hbel⟩ := hrel
    have Hbel := Lib.hid hbel
    have Hown := Lib.hid hown
    have hsz := hbel.size
    clear hbel hown
    by_cases hlt : k < n
    · obtain ⟨b, o, rfl, hc⟩ := HR.out.2 (by omega)
      have Hc := Lib.hid hc
      clear hc
      obtain ⟨wo, rfl⟩ : ∃ wo : World, wo = wr := ⟨_, rfl⟩
      go_upto_block 2 with fail
      go_cut [5, 6] from 12 to 30 (fun v i wx => v = .int .i64 (runLen xs k) ∧ Below wo.heap.size wo wx)
      case first =>
       go_wp2
       go_loopw [5, 6] (fun v i wr => ∃ (m : Nat), k + m ≤ n ∧ v = .int .i64 m ∧ i = .int .i64 (k + m) ∧ Hid (∀ j, j < m → rd xs (k + j) = rd xs k) ∧ Below wo.heap.size wo wr) (fun _ i _ => n - (intOf i).toNat)
       case atStart => exact ⟨0, by omega, rfl, by simp, (fun j hj => by omega), Below.refl _ _⟩
       case round =>
         obtain ⟨m, hm, rfl, rfl, Hall, hbi⟩ := hrel
         have Hbi := Lib.hid hbi
         have Hw := Lib.hid (below_seq Hbel.out (Nat.le_refl _) hbi)
         have z0 := kept_cell Hw.out (Hc.out k hlt)
         have hsz2 := hbi.size
         clear hbi
         have s1 : ((k : Int) + m).toNat = k + m := by omega
         have s3 : 0 ≤ (k : Int) + m := by omega
         by_cases hlt2 : k + m < n
         · have z1 := kept_cell Hw.out (Hc.out (k + m) hlt2)
           have s4 : decide ((k : Int) + m < n) = true := by simp; omega
           have s5 : (k : Int) + m < n := by omega
           cases he : (rd xs (k + m) == rd xs k)
           · have hrun : runLen xs k = m := runLen_of m (by rw [Hlen.out]; omega) Hall.out (.inr (by simpa using he))
             go_wp2
             go_quiet (fail)
             (go_wp2; go_meet; exact ⟨by rw [hrun], Hbi.out.trans ⟨rfl, rfl, rfl, Nat.le_refl _, fun _ _ => rfl⟩⟩)
           · go_wp2
             go_quiet (fail)
             go_wp2
             go_roundw
             case rel =>
               refine ⟨m + 1, by omega, by go_num, by go_num, ?_, Hbi.out.trans ⟨rfl, rfl, rfl, Nat.le_refl _, fun _ _ => rfl⟩⟩
               intro j hj
               rcases Nat.lt_or_ge j m with h | h
               · exact Hall.out j h
               · rw [show j = m from by omega]; simpa using he
             case measure => simp [intOf]; omega
         · have s4 : decide ((k : Int) + m < n) = false := by simp; omega
           have hrun : runLen xs k = m := runLen_of m (by rw [Hlen.out]; omega) Hall.out (.inl (by rw [Hlen.out]; omega))
           go_wp2
           go_quiet (fail)
           (go_wp2; go_meet; exact ⟨by rw [hrun], Hbi.out.trans ⟨rfl, rfl, rfl, Nat.le_refl _, fun _ _ => rfl⟩⟩)
      case rest =>
       obtain ⟨rfl, hbx⟩ := hcut
       have hrp := runLen_pos (xs := xs) (i := k) (by rw [Hlen.out]; exact hlt)
       rw [Hlen.out] at hrp
       have Hown1 := Lib.hid (own_below Hown.out hbx)
       have Hbel1 := Lib.hid (below_seq Hbel.out (Nat.le_refl _) hbx)
       have hsz1 := Hbel1.out.size
       have z1 := kept_cell Hbel1.out (Hc.out k hlt)
       have Z0 := Lib.hid (fun h : 0 < k => kept_cell Hbel1.out (Hc.out (k - 1) (by omega)))
       have hpos := Hp.out k hlt
       clear hbx
       by_cases h0 : rd xs k = 0
       · have t1 : (rd xs k == 0) = true := by simpa using h0
         have H0 := Lib.hid h0
         by_cases h1 : 11 ≤ runLen xs k
         · by_cases h2 : 138 < runLen xs k
           · go_wp2_with (first | (at_builtin; refine wpList_app2 rfl _ _ rfl elItemR Hown1.out rfl rfl (by simp) rfl rfl (by omega) (by first | omega | (simp; omega)) ?_; intro v' w' hown' hbel' _))
             go_roundw
             case rel =>
               refine ⟨k + 138, pre ++ [⟨18, 7, 127⟩], by omega, by go_num, by simp; omega, ?_, ?_, Hbel1.out.trans hbel'⟩
               · rw [List.length_append, itemCells_append]; exact hown'
               · exact items_next (by rw [Hlen.out]; exact hlt) Hit.out (by rw [itemAt_18 H0.out h1, Nat.min_eq_right (by omega)]; rfl)
             case measure => simp [intOf]; omega
           · go_wp2_with (first | (at_builtin; refine wpList_app2 rfl _ _ rfl elItemR Hown1.out rfl rfl (by simp) rfl rfl (by omega) (by first | omega | (simp; omega)) ?_; intro v' w' hown' hbel' _))
             go_roundw
             case rel =>
               refine ⟨k + runLen xs k, pre ++ [⟨18, 7, (runLen xs k : Nat) - 11⟩], by omega, by go_num, by simp; omega, ?_, ?_, Hbel1.out.trans hbel'⟩
               · rw [List.length_append, itemCells_append]; exact hown'
               · exact items_next (by rw [Hlen.out]; exact hlt) Hit.out (by rw [itemAt_18 H0.out h1, Nat.min_eq_left (by omega)])
             case measure => simp [intOf]; omega
         · by_cases h2 : 3 ≤ runLen xs k
           · go_wp2_with (first | (at_builtin; refine wpList_app2 rfl _ _ rfl elItemR Hown1.out rfl rfl (by simp) rfl rfl (by omega) (by first | omega | (simp; omega)) ?_; intro v' w' hown' hbel' _))
             go_roundw
             case rel =>
               refine ⟨k + runLen xs k, pre ++ [⟨17, 3, (runLen xs k : Nat) - 3⟩], by omega, by go_num, by simp; omega, ?_, ?_, Hbel1.out.trans hbel'⟩
               · rw [List.length_append, itemCells_append]; exact hown'
               · exact items_next (by rw [Hlen.out]; exact hlt) Hit.out (itemAt_17 H0.out h2 (by omega))
             case measure => simp [intOf]; omega
           · have t2 : decide (0 < rd xs k) = false := by simp; omega
             clear h0
             go_wp2
             go_quiet (fail)
             go_wp2_with (first | (at_builtin; refine wpList_app2 rfl _ _ rfl elItemR (wr := wc.drewN _) Hown1.out rfl rfl (by simp) rfl rfl (by omega) (by first | omega | (simp; omega)) ?_; intro v' w' hown' hbel' _))
             go_roundw
             case rel =>
               refine ⟨k + 1, pre ++ [⟨rd xs k, 0, 0⟩], by omega, by go_num, by simp; omega, ?_, ?_, (below_seq Hbel1.out (Nat.le_refl _) ⟨rfl, rfl, rfl, Nat.le_refl _, fun _ _ => rfl⟩ : Below w.heap.size w (wc.drewN _)).trans hbel'⟩
               · rw [List.length_append, itemCells_append]; exact hown'
               · exact items_next (by rw [Hlen.out]; exact hlt) Hit.out (itemAt_one (.inl ⟨H0.out, by omega⟩))
             case measure => simp [intOf]; omega
       · have t1 : (rd xs k == 0) = false := by simpa using h0
         have t2 : decide (0 < rd xs k) = true := by simp; omega
         have H0 := Lib.hid h0
         clear h0
         by_cases hk0 : 0 < k
         · have z0 := Z0.out hk0
           have s1 : IntKind.i64.wrap ((k : Int) - 1) = k - 1 := IntWalk.i64_in _ (by omega)
           have s2 : ((k : Int) - 1).toNat = k - 1 := by omega
           have s3 : 0 ≤ (k : Int) - 1 := by omega
           have s4 : (k : Int) - 1 < n := by omega
           have t3 : decide (0 < (k : Int)) = true := by simp; omega
           cases t4 : (rd xs k == rd xs (k - 1))
           · go_wp2
             go_quiet (fail)
             go_wp2_with (first | (at_builtin; refine wpList_app2 rfl _ _ rfl elItemR (wr := wc.drewN _) Hown1.out rfl rfl (by simp) rfl rfl (by omega) (by first | omega | (simp; omega)) ?_; intro v' w' hown' hbel' _))
             go_roundw
             case rel =>
               refine ⟨k + 1, pre ++ [⟨rd xs k, 0, 0⟩], by omega, by go_num, by simp; omega, ?_, ?_, (below_seq Hbel1.out (Nat.le_refl _) ⟨rfl, rfl, rfl, Nat.le_refl _, fun _ _ => rfl⟩ : Below w.heap.size w (wc.drewN _)).trans hbel'⟩
               · rw [List.length_append, itemCells_append]; exact hown'
               · exact items_next (by rw [Hlen.out]; exact hlt) Hit.out (itemAt_one (.inr ⟨H0.out, .inr (.inl (fun e => by rw [e] at t4; simp at t4))⟩))
             case measure => simp [intOf]; omega
           · by_cases h3 : 3 ≤ runLen xs k
             · have t5 : decide (2 < (runLen xs k : Int)) = true := by simp; omega
               by_cases h6 : 6 < runLen xs k
               · go_wp2
                 go_quiet (fail)
                 go_wp2_with (first | (at_builtin; refine wpList_app2 rfl _ _ rfl elItemR (wr := wc.drewN _) Hown1.out rfl rfl (by simp) rfl rfl (by omega) (by first | omega | (simp; omega)) ?_; intro v' w' hown' hbel' _))
                 go_roundw
                 case rel =>
                   refine ⟨k + 6, pre ++ [⟨16, 2, 3⟩], by omega, by go_num, by simp; omega, ?_, ?_, (below_seq Hbel1.out (Nat.le_refl _) ⟨rfl, rfl, rfl, Nat.le_refl _, fun _ _ => rfl⟩ : Below w.heap.size w (wc.drewN _)).trans hbel'⟩
                   · rw [List.length_append, itemCells_append]; exact hown'
                   · exact items_next (by rw [Hlen.out]; exact hlt) Hit.out (by rw [itemAt_16 H0.out hk0 (by simpa using (eq_of_beq t4).symm) h3, Nat.min_eq_right (by omega)]; rfl)
                 case measure => simp [intOf]; omega
               · go_wp2
                 go_quiet (fail)
                 go_wp2_with (first | (at_builtin; refine wpList_app2 rfl _ _ rfl elItemR (wr := wc.drewN _) Hown1.out rfl rfl (by simp) rfl rfl (by omega) (by first | omega | (simp; omega)) ?_; intro v' w' hown' hbel' _))
                 go_roundw
                 case rel =>
                   refine ⟨k + runLen xs k, pre ++ [⟨16, 2, (runLen xs k : Nat) - 3⟩], by omega, by go_num, by simp; omega, ?_, ?_, (below_seq Hbel1.out (Nat.le_refl _) ⟨rfl, rfl, rfl, Nat.le_refl _, fun _ _ => rfl⟩ : Below w.heap.size w (wc.drewN _)).trans hbel'⟩
                   · rw [List.length_append, itemCells_append]; exact hown'
                   · exact items_next (by rw [Hlen.out]; exact hlt) Hit.out (by rw [itemAt_16 H0.out hk0 (by simpa using (eq_of_beq t4).symm) h3, Nat.min_eq_left (by omega)])
                 case measure => simp [intOf]; omega
             · have t5 : decide (2 < (runLen xs k : Int)) = false := by simp; omega
               go_wp2
               go_quiet (fail)
               go_wp2_with (first | (at_builtin; refine wpList_app2 rfl _ _ rfl elItemR (wr := wc.drewN _) Hown1.out rfl rfl (by simp) rfl rfl (by omega) (by first | omega | (simp; omega)) ?_; intro v' w' hown' hbel' _))
               go_roundw
               case rel =>
                 refine ⟨k + 1, pre ++ [⟨rd xs k, 0, 0⟩], by omega, by go_num, by simp; omega, ?_, ?_, (below_seq Hbel1.out (Nat.le_refl _) ⟨rfl, rfl, rfl, Nat.le_refl _, fun _ _ => rfl⟩ : Below w.heap.size w (wc.drewN _)).trans hbel'⟩
                 · rw [List.length_append, itemCells_append]; exact hown'
                 · exact items_next (by rw [Hlen.out]; exact hlt) Hit.out (itemAt_one (.inr ⟨H0.out, .inr (.inr (by omega))⟩))
               case measure => simp [intOf]; omega
         · have t3 : decide (0 < (k : Int)) = false := by simp; omega
           go_wp2
           go_quiet (fail)
           go_wp2_with (first | (at_builtin; refine wpList_app2 rfl _ _ rfl elItemR (wr := wc.drewN _) Hown1.out rfl rfl (by simp) rfl rfl (by omega) (by first | omega | (simp; omega)) ?_; intro v' w' hown' hbel' _))
           go_roundw
           case rel =>
             refine ⟨k + 1, pre ++ [⟨rd xs k, 0, 0⟩], by omega, by go_num, by simp; omega, ?_, ?_, (below_seq Hbel1.out (Nat.le_refl _) ⟨rfl, rfl, rfl, Nat.le_refl _, fun _ _ => rfl⟩ : Below w.heap.size w (wc.drewN _)).trans hbel'⟩
             · rw [List.length_append, itemCells_append]; exact hown'
             · exact items_next (by rw [Hlen.out]; exact hlt) Hit.out (itemAt_one (.inr ⟨H0.out, .inl (by omega)⟩))
           case measure => simp [intOf]; omega
    · obtain rfl : k = n := by omega
      go_wp2
      go_ret
      have e : items xs = pre := by rw [Hit.out, itemsFrom_end xs _ _ (by rw [Hlen.out]; exact Nat.le_refl _), List.append_nil]
      rw [e]
      exact ⟨_, rfl, Hown.out, Hbel.out⟩
end Go.Proofs.YtdbkbeojedndbaaGreatDoor
