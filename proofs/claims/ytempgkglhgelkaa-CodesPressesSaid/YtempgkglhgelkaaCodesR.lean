/-
  The walk of the document's Press (inkwellref08): the same items.
-/
import Derived.Test.YtempgkglhgelkaaCodesP
import Derived.IntWalk
import Derived.Deep.Cut
import Derived.Deep.CutRange
import Derived.Deep.CutBlock
namespace Go.Proofs.Ytempgkglhgelkaa
open Go.RowKit

theorem elItemR : ElT Try.prog 28 33 (.agg #[.int .i64 0, .int .i64 0, .int .u64 0]) 3 24 := ⟨Try.underlying28, by kernel_rfl, rfl, by decide, by decide⟩

set_option maxHeartbeats 4000000 in
set_option maxRecDepth 200000 in
theorem refPress_calls (A : Option Addr) (n cap : Nat) (xs : List Int) (w : World) (hR : Rd w .i64 A n xs) (hn : n ≤ 1000000) (hp : ∀ j, j < n → 0 ≤ rd xs j) :
    Calls Try.prog 14 #[.slice A n cap] w fun e w' => ∃ v, e = .returned v ∧ w'.ownsRow w.heap.size 33 3 v (items xs).length (itemCells (items xs)) ∧ Below w.heap.size w w' := by
  have Hlen := Lib.hid hR.1
  have HR := Lib.hid hR
  have Hp := Lib.hid hp
  clear hR hp
  go_enter Try.func14, Try.ntmps14
  go_wp2
  go_loopw [3, 4] (fun v i wr => ∃ (k : Nat) (pre : List Item), k ≤ n ∧ i = .int .i64 k ∧ pre.length ≤ k ∧ wr.ownsRow w.heap.size 33 3 v pre.length (itemCells pre) ∧ Hid (items xs = pre ++ itemsFrom xs xs.length k) ∧ Below w.heap.size w wr) (fun _ i _ => n - (intOf i).toNat)
  case atStart => exact ⟨0, [], by omega, rfl, by simp, World.ownsRow_nil _ _ _ _, rfl, Below.refl _ _⟩
  case round =>
    obtain ⟨k, pre, hk, rfl, hpre, hown, Hit, hbel⟩ := hrel
    have Hbel := Lib.hid hbel
    have Hown := Lib.hid hown
    have hsz := hbel.size
    clear hbel hown
    by_cases hlt : k < n
    · obtain ⟨b, o, rfl, hc⟩ := HR.out.2 (by omega)
      have Hc := Lib.hid hc
      clear hc
      obtain ⟨wo, rfl⟩ : ∃ wo : World, wo = wr := ⟨_, rfl⟩
      go_upto_block 2 with fail
      go_cut [5, 6] from 12 to 30 (fun v i wx => v = .int .i64 (runLen xs k) ∧ Below wo.heap.size wo wx)
      case first =>
       go_wp2
       go_loopw [5, 6] (fun v i wr => ∃ (m : Nat), k + m ≤ n ∧ v = .int .i64 m ∧ i = .int .i64 (k + m) ∧ Hid (∀ j, j < m → rd xs (k + j) = rd xs k) ∧ Below wo.heap.size wo wr) (fun _ i _ => n - (intOf i).toNat)
       case atStart => exact ⟨0, by omega, rfl, by simp, (fun j hj => by omega), Below.refl _ _⟩
       case round =>
         obtain ⟨m, hm, rfl, rfl, Hall, hbi⟩ := hrel
         have Hbi := Lib.hid hbi
         have Hw := Lib.hid (below_seq Hbel.out (Nat.le_refl _) hbi)
         have z0 := kept_cell Hw.out (Hc.out k hlt)
         have hsz2 := hbi.size
         clear hbi
         have s1 : ((k : Int) + m).toNat = k + m := by omega
         have s3 : 0 ≤ (k : Int) + m := by omega
         by_cases hlt2 : k + m < n
         · have z1 := kept_cell Hw.out (Hc.out (k + m) hlt2)
           have s4 : decide ((k : Int) + m < n) = true := by simp; omega
           have s5 : (k : Int) + m < n := by omega
           cases he : (rd xs (k + m) == rd xs k)
           · have hrun : runLen xs k = m := runLen_of m (by rw [Hlen.out]; omega) Hall.out (.inr (by simpa using he))
             go_wp2
             go_quiet (fail)
             (go_wp2; go_meet; exact ⟨by rw [hrun], Hbi.out.trans ⟨rfl, rfl, rfl, Nat.le_refl _, fun _ _ => rfl⟩⟩)
           · go_wp2
             go_quiet (fail)
             go_wp2
             go_roundw
             case rel =>
               refine ⟨m + 1, by omega, by go_num, by go_num, ?_, Hbi.out.trans ⟨rfl, rfl, rfl, Nat.le_refl _, fun _ _ => rfl⟩⟩
               intro j hj
               rcases Nat.lt_or_ge j m with h | h
               · exact Hall.out j h
               · rw [show j = m from by omega]; simpa using he
             case measure => simp [intOf]; omega
         · have s4 : decide ((k : Int) + m < n) = false := by simp; omega
           have hrun : runLen xs k = m := runLen_of m (by rw [Hlen.out]; omega) Hall.out (.inl (by rw [Hlen.out]; omega))
           go_wp2
           go_quiet (fail)
           (go_wp2; go_meet; exact ⟨by rw [hrun], Hbi.out.trans ⟨rfl, rfl, rfl, Nat.le_refl _, fun _ _ => rfl⟩⟩)
      case rest =>
       obtain ⟨rfl, hbx⟩ := hcut
       have hrp := runLen_pos (xs := xs) (i := k) (by rw [Hlen.out]; exact hlt)
       rw [Hlen.out] at hrp
       have Hown1 := Lib.hid (own_below Hown.out hbx)
       have Hbel1 := Lib.hid (below_seq Hbel.out (Nat.le_refl _) hbx)
       have hsz1 := Hbel1.out.size
       have z1 := kept_cell Hbel1.out (Hc.out k hlt)
       have Z0 := Lib.hid (fun h : 0 < k => kept_cell Hbel1.out (Hc.out (k - 1) (by omega)))
       have hpos := Hp.out k hlt
       clear hbx
       by_cases h0 : rd xs k = 0
       · have t1 : (rd xs k == 0) = true := by simpa using h0
         have H0 := Lib.hid h0
         by_cases h1 : 11 ≤ runLen xs k
         · by_cases h2 : 138 < runLen xs k
           · go_wp2_with (first | (at_builtin; refine wpList_app2 rfl _ _ rfl elItemR Hown1.out rfl rfl (by simp) rfl rfl (by omega) (by first | omega | (simp; omega)) ?_; intro v' w' hown' hbel' _))
             go_roundw
             case rel =>
               refine ⟨k + 138, pre ++ [⟨18, 7, 127⟩], by omega, by go_num, by simp; omega, ?_, ?_, Hbel1.out.trans hbel'⟩
               · rw [List.length_append, itemCells_append]; exact hown'
               · exact items_next (by rw [Hlen.out]; exact hlt) Hit.out (by rw [itemAt_18 H0.out h1, Nat.min_eq_right (by omega)]; rfl)
             case measure => simp [intOf]; omega
           · go_wp2_with (first | (at_builtin; refine wpList_app2 rfl _ _ rfl elItemR Hown1.out rfl rfl (by simp) rfl rfl (by omega) (by first | omega | (simp; omega)) ?_; intro v' w' hown' hbel' _))
             go_roundw
             case rel =>
               refine ⟨k + runLen xs k, pre ++ [⟨18, 7, (runLen xs k : Nat) - 11⟩], by omega, by go_num, by simp; omega, ?_, ?_, Hbel1.out.trans hbel'⟩
               · rw [List.length_append, itemCells_append]; exact hown'
               · exact items_next (by rw [Hlen.out]; exact hlt) Hit.out (by rw [itemAt_18 H0.out h1, Nat.min_eq_left (by omega)])
             case measure => simp [intOf]; omega
         · by_cases h2 : 3 ≤ runLen xs k
           · go_wp2_with (first | (at_builtin; refine wpList_app2 rfl _ _ rfl elItemR Hown1.out rfl rfl (by simp) rfl rfl (by omega) (by first | omega | (simp; omega)) ?_; intro v' w' hown' hbel' _))
             go_roundw
             case rel =>
               refine ⟨k + runLen xs k, pre ++ [⟨17, 3, (runLen xs k : Nat) - 3⟩], by omega, by go_num, by simp; omega, ?_, ?_, Hbel1.out.trans hbel'⟩
               · rw [List.length_append, itemCells_append]; exact hown'
               · exact items_next (by rw [Hlen.out]; exact hlt) Hit.out (itemAt_17 H0.out h2 (by omega))
             case measure => simp [intOf]; omega
           · have t2 : decide (0 < rd xs k) = false := by simp; omega
             clear h0
             go_wp2
             go_quiet (fail)
             go_wp2_with (first | (at_builtin; refine wpList_app2 rfl _ _ rfl elItemR (wr := wc.drewN _) Hown1.out rfl rfl (by simp) rfl rfl (by omega) (by first | omega | (simp; omega)) ?_; intro v' w' hown' hbel' _))
             go_roundw
             case rel =>
               refine ⟨k + 1, pre ++ [⟨rd xs k, 0, 0⟩], by omega, by go_num, by simp; omega, ?_, ?_, (below_seq Hbel1.out (Nat.le_refl _) ⟨rfl, rfl, rfl, Nat.le_refl _, fun _ _ => rfl⟩ : Below w.heap.size w (wc.drewN _)).trans hbel'⟩
               · rw [List.length_append, itemCells_append]; exact hown'
               · exact items_next (by rw [Hlen.out]; exact hlt) Hit.out (itemAt_one (.inl ⟨H0.out, by omega⟩))
             case measure => simp [intOf]; omega
       · have t1 : (rd xs k == 0) = false := by simpa using h0
         have t2 : decide (0 < rd xs k) = true := by simp; omega
         have H0 := Lib.hid h0
         clear h0
         by_cases hk0 : 0 < k
         · have z0 := Z0.out hk0
           have s1 : IntKind.i64.wrap ((k : Int) - 1) = k - 1 := IntWalk.i64_in _ (by omega)
           have s2 : ((k : Int) - 1).toNat = k - 1 := by omega
           have s3 : 0 ≤ (k : Int) - 1 := by omega
           have s4 : (k : Int) - 1 < n := by omega
           have t3 : decide (0 < (k : Int)) = true := by simp; omega
           cases t4 : (rd xs k == rd xs (k - 1))
           · go_wp2
             go_quiet (fail)
             go_wp2_with (first | (at_builtin; refine wpList_app2 rfl _ _ rfl elItemR (wr := wc.drewN _) Hown1.out rfl rfl (by simp) rfl rfl (by omega) (by first | omega | (simp; omega)) ?_; intro v' w' hown' hbel' _))
             go_roundw
             case rel =>
               refine ⟨k + 1, pre ++ [⟨rd xs k, 0, 0⟩], by omega, by go_num, by simp; omega, ?_, ?_, (below_seq Hbel1.out (Nat.le_refl _) ⟨rfl, rfl, rfl, Nat.le_refl _, fun _ _ => rfl⟩ : Below w.heap.size w (wc.drewN _)).trans hbel'⟩
               · rw [List.length_append, itemCells_append]; exact hown'
               · exact items_next (by rw [Hlen.out]; exact hlt) Hit.out (itemAt_one (.inr ⟨H0.out, .inr (.inl (fun e => by rw [e] at t4; simp at t4))⟩))
             case measure => simp [intOf]; omega
           · by_cases h3 : 3 ≤ runLen xs k
             · have t5 : decide (2 < (runLen xs k : Int)) = true := by simp; omega
               by_cases h6 : 6 < runLen xs k
               · go_wp2
                 go_quiet (fail)
                 go_wp2_with (first | (at_builtin; refine wpList_app2 rfl _ _ rfl elItemR (wr := wc.drewN _) Hown1.out rfl rfl (by simp) rfl rfl (by omega) (by first | omega | (simp; omega)) ?_; intro v' w' hown' hbel' _))
                 go_roundw
                 case rel =>
                   refine ⟨k + 6, pre ++ [⟨16, 2, 3⟩], by omega, by go_num, by simp; omega, ?_, ?_, (below_seq Hbel1.out (Nat.le_refl _) ⟨rfl, rfl, rfl, Nat.le_refl _, fun _ _ => rfl⟩ : Below w.heap.size w (wc.drewN _)).trans hbel'⟩
                   · rw [List.length_append, itemCells_append]; exact hown'
                   · exact items_next (by rw [Hlen.out]; exact hlt) Hit.out (by rw [itemAt_16 H0.out hk0 (by simpa using (eq_of_beq t4).symm) h3, Nat.min_eq_right (by omega)]; rfl)
                 case measure => simp [intOf]; omega
               · go_wp2
                 go_quiet (fail)
                 go_wp2_with (first | (at_builtin; refine wpList_app2 rfl _ _ rfl elItemR (wr := wc.drewN _) Hown1.out rfl rfl (by simp) rfl rfl (by omega) (by first | omega | (simp; omega)) ?_; intro v' w' hown' hbel' _))
                 go_roundw
                 case rel =>
                   refine ⟨k + runLen xs k, pre ++ [⟨16, 2, (runLen xs k : Nat) - 3⟩], by omega, by go_num, by simp; omega, ?_, ?_, (below_seq Hbel1.out (Nat.le_refl _) ⟨rfl, rfl, rfl, Nat.le_refl _, fun _ _ => rfl⟩ : Below w.heap.size w (wc.drewN _)).trans hbel'⟩
                   · rw [List.length_append, itemCells_append]; exact hown'
                   · exact items_next (by rw [Hlen.out]; exact hlt) Hit.out (by rw [itemAt_16 H0.out hk0 (by simpa using (eq_of_beq t4).symm) h3, Nat.min_eq_left (by omega)])
                 case measure => simp [intOf]; omega
             · have t5 : decide (2 < (runLen xs k : Int)) = false := by simp; omega
               go_wp2
               go_quiet (fail)
               go_wp2_with (first | (at_builtin; refine wpList_app2 rfl _ _ rfl elItemR (wr := wc.drewN _) Hown1.out rfl rfl (by simp) rfl rfl (by omega) (by first | omega | (simp; omega)) ?_; intro v' w' hown' hbel' _))
               go_roundw
               case rel =>
                 refine ⟨k + 1, pre ++ [⟨rd xs k, 0, 0⟩], by omega, by go_num, by simp; omega, ?_, ?_, (below_seq Hbel1.out (Nat.le_refl _) ⟨rfl, rfl, rfl, Nat.le_refl _, fun _ _ => rfl⟩ : Below w.heap.size w (wc.drewN _)).trans hbel'⟩
                 · rw [List.length_append, itemCells_append]; exact hown'
                 · exact items_next (by rw [Hlen.out]; exact hlt) Hit.out (itemAt_one (.inr ⟨H0.out, .inr (.inr (by omega))⟩))
               case measure => simp [intOf]; omega
         · have t3 : decide (0 < (k : Int)) = false := by simp; omega
           go_wp2
           go_quiet (fail)
           go_wp2_with (first | (at_builtin; refine wpList_app2 rfl _ _ rfl elItemR (wr := wc.drewN _) Hown1.out rfl rfl (by simp) rfl rfl (by omega) (by first | omega | (simp; omega)) ?_; intro v' w' hown' hbel' _))
           go_roundw
           case rel =>
             refine ⟨k + 1, pre ++ [⟨rd xs k, 0, 0⟩], by omega, by go_num, by simp; omega, ?_, ?_, (below_seq Hbel1.out (Nat.le_refl _) ⟨rfl, rfl, rfl, Nat.le_refl _, fun _ _ => rfl⟩ : Below w.heap.size w (wc.drewN _)).trans hbel'⟩
             · rw [List.length_append, itemCells_append]; exact hown'
             · exact items_next (by rw [Hlen.out]; exact hlt) Hit.out (itemAt_one (.inr ⟨H0.out, .inl (by omega)⟩))
           case measure => simp [intOf]; omega
    · obtain rfl : k = n := by omega
      go_wp2
      go_ret
      have e : items xs = pre := by rw [Hit.out, itemsFrom_end xs _ _ (by rw [Hlen.out]; exact Nat.le_refl _), List.append_nil]
      rw [e]
      exact ⟨_, rfl, Hown.out, Hbel.out⟩
#print axioms refPress_calls
end Go.Proofs.Ytempgkglhgelkaa

