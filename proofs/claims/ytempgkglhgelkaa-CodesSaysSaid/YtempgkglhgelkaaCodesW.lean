/-
  The walks of package codes: run, Press.
-/
import Derived.Test.YtempgkglhgelkaaCodesP
import Derived.IntWalk
namespace Go.Proofs.Ytempgkglhgelkaa
open Go.RowKit

set_option maxHeartbeats 1000000 in
theorem run_calls (A : Option Addr) (n cap i : Nat) (xs : List Int) (w : World) (hR : Rd w .i64 A n xs) (hn : n ≤ 17592186044416) (hi : i < n) :
    Calls Try.prog 31 #[.slice A n cap, .int .i64 i] w fun e w' => e = .returned (.int .i64 (runLen xs i)) ∧ Below w.heap.size w w' := by
  obtain ⟨hlen, hR⟩ := hR
  obtain ⟨b, o, rfl, hc⟩ := hR (by omega)
  have Hc := Lib.hid hc
  have Hlen := Lib.hid hlen
  clear hR hc hlen
  go_enter Try.func31, Try.ntmps31
  go_wp2
  go_loopw [5] (fun k wr => ∃ m : Nat, 1 ≤ m ∧ i + m ≤ n ∧ k = .int .i64 m ∧ Hid (∀ j, j < m → rd xs (i + j) = rd xs i) ∧ Below w.heap.size w wr) (fun k _ => n - (intOf k).toNat)
  case atStart => exact ⟨1, by omega, by omega, rfl, fun j hj => by rw [show j = 0 from by omega]; rfl, Below.refl _ _⟩
  case round =>
    obtain ⟨m, hm, him, rfl, Hall, hbel⟩ := hrel
    have Hbel := Lib.hid hbel
    have z2 := kept_cell hbel (Hc.out i hi)
    clear hbel
    have s1 : IntKind.i64.wrap ((i : Int) + m) = i + m := IntWalk.i64_in _ (by omega)
    have s2 : ((i : Int) + m).toNat = i + m := by omega
    have s3 : 0 ≤ (i : Int) + m := by omega
    by_cases hlt : i + m < n
    · have z1 := kept_cell Hbel.out (Hc.out (i + m) hlt)
      have s4 : decide ((i : Int) + m < n) = true := by simp; omega
      have s5 : (i : Int) + m < n := by omega
      cases he : (rd xs (i + m) == rd xs i)
      · go_wp2
        go_quiet (fail)
        go_wp2
        go_ret
        refine ⟨?_, Hbel.out.trans ⟨rfl, rfl, rfl, Nat.le_refl _, fun _ _ => rfl⟩⟩
        rw [runLen_of m (by rw [Hlen.out]; omega) Hall.out (.inr (by simpa using he))]
        rfl
      · go_wp2
        go_quiet (fail)
        go_wp2
        go_roundw
        case rel =>
          refine ⟨m + 1, by omega, by omega, by go_num, ?_, Hbel.out.trans ⟨rfl, rfl, rfl, Nat.le_refl _, fun _ _ => rfl⟩⟩
          intro j hj
          rcases Nat.lt_or_ge j m with h | h
          · exact Hall.out j h
          · rw [show j = m from by omega]; simpa using he
        case measure => simp [intOf]; omega
    · have s4 : decide ((i : Int) + m < n) = false := by simp; omega
      go_wp2
      go_quiet (fail)
      go_wp2
      go_ret
      refine ⟨?_, Hbel.out.trans ⟨rfl, rfl, rfl, Nat.le_refl _, fun _ _ => rfl⟩⟩
      rw [runLen_of m (by rw [Hlen.out]; omega) Hall.out (.inl (by rw [Hlen.out]; omega))]
      rfl

theorem elItem : ElT Try.prog 24 32 (.agg #[.int .i64 0, .int .i64 0, .int .u64 0]) 3 24 := ⟨Try.underlying24, by kernel_rfl, rfl, by decide, by decide⟩

set_option maxHeartbeats 4000000 in
set_option maxRecDepth 200000 in
theorem Press_calls (A : Option Addr) (n cap : Nat) (xs : List Int) (w : World) (hR : Rd w .i64 A n xs) (hn : n ≤ 1000000) :
    Calls Try.prog 12 #[.slice A n cap] w fun e w' => ∃ v, e = .returned v ∧ w'.ownsRow w.heap.size 32 3 v (items xs).length (itemCells (items xs)) ∧ Below w.heap.size w w' := by
  have Hlen := Lib.hid hR.1
  have HR := Lib.hid hR
  clear hR
  go_enter Try.func12, Try.ntmps12
  go_wp2
  go_loopw [3, 4] (fun v i wr => ∃ (k : Nat) (pre : List Item), k ≤ n ∧ i = .int .i64 k ∧ pre.length ≤ k ∧ wr.ownsRow w.heap.size 32 3 v pre.length (itemCells pre) ∧ Hid (items xs = pre ++ itemsFrom xs xs.length k) ∧ Below w.heap.size w wr) (fun _ i _ => n - (intOf i).toNat)
  case atStart => exact ⟨0, [], by omega, rfl, by simp, World.ownsRow_nil _ _ _ _, rfl, Below.refl _ _⟩
  case round =>
    obtain ⟨k, pre, hk, rfl, hpre, hown, Hit, hbel⟩ := hrel
    have Hbel := Lib.hid hbel
    have Hown := Lib.hid hown
    have hsz := hbel.size
    clear hbel hown
    by_cases hlt : k < n
    · have hrp := runLen_pos (xs := xs) (i := k) (by rw [Hlen.out]; exact hlt)
      rw [Hlen.out] at hrp
      go_wp2_with fail
      refine (run_calls A n cap k xs _ (HR.out.below (Hbel.out.mono (Nat.le_refl _))) (by omega) hlt).mono ?_
      rintro e w1 ⟨rfl, hb1⟩
      have Hown1 := Lib.hid (own_below Hown.out hb1)
      have Hbel1 := Lib.hid (below_seq Hbel.out (Nat.le_refl _) hb1)
      have hsz1 := Hbel1.out.size
      obtain ⟨b, o, rfl, hc⟩ := HR.out.2 (by omega)
      have z1 := kept_new (kept_cell Hbel1.out (hc k hlt))
      have Z0 := Lib.hid (fun h : 0 < k => kept_new (kept_cell Hbel1.out (hc (k - 1) (by omega))))
      clear hc Hown Hbel hb1
      by_cases h0 : rd xs k = 0
      · have t1 : (rd xs k == 0) = true := by simpa using h0
        have H0 := Lib.hid h0
        clear h0
        by_cases h1 : 11 ≤ runLen xs k
        · by_cases h2 : 138 < runLen xs k
          · go_wp2_with (first | (at_builtin; refine wpList_app2 rfl _ _ rfl elItem (Hown1.out.alloc _) rfl rfl (by simp) rfl rfl (by omega) (by simp; omega) ?_; intro v' w' hown' hbel' _))
            go_roundw
            case rel =>
              refine ⟨k + 138, pre ++ [⟨18, 7, 127⟩], by omega, by go_num, by simp; omega, ?_, ?_, (below_new Hbel1.out (Nat.le_refl _) _).trans hbel'⟩
              · rw [List.length_append, itemCells_append]; exact hown'
              · exact items_next (by rw [Hlen.out]; exact hlt) Hit.out (by rw [itemAt_18 H0.out h1, Nat.min_eq_right (by omega)]; rfl)
            case measure => simp [intOf]; omega
          · go_wp2_with (first | (at_builtin; refine wpList_app2 rfl _ _ rfl elItem (Hown1.out.alloc _) rfl rfl (by simp) rfl rfl (by omega) (by simp; omega) ?_; intro v' w' hown' hbel' _))
            go_roundw
            case rel =>
              refine ⟨k + runLen xs k, pre ++ [⟨18, 7, (runLen xs k : Nat) - 11⟩], by omega, by go_num, by simp; omega, ?_, ?_, (below_new Hbel1.out (Nat.le_refl _) _).trans hbel'⟩
              · rw [List.length_append, itemCells_append]; exact hown'
              · exact items_next (by rw [Hlen.out]; exact hlt) Hit.out (by rw [itemAt_18 H0.out h1, Nat.min_eq_left (by omega)])
            case measure => simp [intOf]; omega
        · by_cases h2 : 3 ≤ runLen xs k
          · go_wp2_with (first | (at_builtin; refine wpList_app2 rfl _ _ rfl elItem (Hown1.out.alloc _) rfl rfl (by simp) rfl rfl (by omega) (by simp; omega) ?_; intro v' w' hown' hbel' _))
            go_roundw
            case rel =>
              refine ⟨k + runLen xs k, pre ++ [⟨17, 3, (runLen xs k : Nat) - 3⟩], by omega, by go_num, by simp; omega, ?_, ?_, (below_new Hbel1.out (Nat.le_refl _) _).trans hbel'⟩
              · rw [List.length_append, itemCells_append]; exact hown'
              · exact items_next (by rw [Hlen.out]; exact hlt) Hit.out (itemAt_17 H0.out h2 (by omega))
            case measure => simp [intOf]; omega
          · have t2 : (rd xs k != 0) = false := by simpa using H0.out
            go_wp2_with (first | (at_builtin; refine wpList_app2 rfl _ _ rfl elItem (Hown1.out.alloc _) rfl rfl (by simp) rfl rfl (by omega) (by simp; omega) ?_; intro v' w' hown' hbel' _))
            go_quiet (fail)
            go_wp2_with (first | (at_builtin; refine wpList_app2 rfl _ _ rfl elItem (own_below Hown1.out (drawn3 w1 _ _ _ _ _)) rfl rfl (by simp) rfl rfl (by omega) (by simp; omega) ?_; intro v' w' hown' hbel' _))
            go_roundw
            case rel =>
              refine ⟨k + 1, pre ++ [⟨rd xs k, 0, 0⟩], by omega, by go_num, by simp; omega, ?_, ?_, (below_seq Hbel1.out (Nat.le_refl _) (drawn3 w1 _ _ _ _ _)).trans hbel'⟩
              · rw [List.length_append, itemCells_append]; exact hown'
              · exact items_next (by rw [Hlen.out]; exact hlt) Hit.out (itemAt_one (.inl ⟨H0.out, by omega⟩))
            case measure => simp [intOf]; omega
      · have t1 : (rd xs k == 0) = false := by simpa using h0
        have t2 : (rd xs k != 0) = true := by simpa using h0
        have H0 := Lib.hid h0
        clear h0
        by_cases hk0 : 0 < k
        · have z0 := Z0.out hk0
          have s1 : IntKind.i64.wrap ((k : Int) - 1) = k - 1 := IntWalk.i64_in _ (by omega)
          have s2 : ((k : Int) - 1).toNat = k - 1 := by omega
          have s3 : 0 ≤ (k : Int) - 1 := by omega
          have s4 : (k : Int) - 1 < n := by omega
          have t3 : decide (0 < (k : Int)) = true := by simp; omega
          cases t4 : (rd xs (k - 1) == rd xs k)
          · go_wp2_with (first | (at_builtin; refine wpList_app2 rfl _ _ rfl elItem (Hown1.out.alloc _) rfl rfl (by simp) rfl rfl (by omega) (by simp; omega) ?_; intro v' w' hown' hbel' _))
            go_quiet (fail)
            go_wp2_with (first | (at_builtin; refine wpList_app2 rfl _ _ rfl elItem (own_below Hown1.out (drawn3 w1 _ _ _ _ _)) rfl rfl (by simp) rfl rfl (by omega) (by simp; omega) ?_; intro v' w' hown' hbel' _))
            go_roundw
            case rel =>
              refine ⟨k + 1, pre ++ [⟨rd xs k, 0, 0⟩], by omega, by go_num, by simp; omega, ?_, ?_, (below_seq Hbel1.out (Nat.le_refl _) (drawn3 w1 _ _ _ _ _)).trans hbel'⟩
              · rw [List.length_append, itemCells_append]; exact hown'
              · exact items_next (by rw [Hlen.out]; exact hlt) Hit.out (itemAt_one (.inr ⟨H0.out, .inr (.inl (by simpa using t4))⟩))
            case measure => simp [intOf]; omega
          · by_cases h3 : 3 ≤ runLen xs k
            · have t5 : decide (3 ≤ (runLen xs k : Int)) = true := by simp; omega
              by_cases h6 : 6 < runLen xs k
              · go_wp2_with (first | (at_builtin; refine wpList_app2 rfl _ _ rfl elItem (Hown1.out.alloc _) rfl rfl (by simp) rfl rfl (by omega) (by simp; omega) ?_; intro v' w' hown' hbel' _))
                go_quiet (fail)
                go_wp2_with (first | (at_builtin; refine wpList_app2 rfl _ _ rfl elItem (own_below Hown1.out (drawn3 w1 _ _ _ _ _)) rfl rfl (by simp) rfl rfl (by omega) (by simp; omega) ?_; intro v' w' hown' hbel' _))
                go_roundw
                case rel =>
                  refine ⟨k + 6, pre ++ [⟨16, 2, 3⟩], by omega, by go_num, by simp; omega, ?_, ?_, (below_seq Hbel1.out (Nat.le_refl _) (drawn3 w1 _ _ _ _ _)).trans hbel'⟩
                  · rw [List.length_append, itemCells_append]; exact hown'
                  · exact items_next (by rw [Hlen.out]; exact hlt) Hit.out (by rw [itemAt_16 H0.out hk0 (by simpa using t4) h3, Nat.min_eq_right (by omega)]; rfl)
                case measure => simp [intOf]; omega
              · go_wp2_with (first | (at_builtin; refine wpList_app2 rfl _ _ rfl elItem (Hown1.out.alloc _) rfl rfl (by simp) rfl rfl (by omega) (by simp; omega) ?_; intro v' w' hown' hbel' _))
                go_quiet (fail)
                go_wp2_with (first | (at_builtin; refine wpList_app2 rfl _ _ rfl elItem (own_below Hown1.out (drawn3 w1 _ _ _ _ _)) rfl rfl (by simp) rfl rfl (by omega) (by simp; omega) ?_; intro v' w' hown' hbel' _))
                go_roundw
                case rel =>
                  refine ⟨k + runLen xs k, pre ++ [⟨16, 2, (runLen xs k : Nat) - 3⟩], by omega, by go_num, by simp; omega, ?_, ?_, (below_seq Hbel1.out (Nat.le_refl _) (drawn3 w1 _ _ _ _ _)).trans hbel'⟩
                  · rw [List.length_append, itemCells_append]; exact hown'
                  · exact items_next (by rw [Hlen.out]; exact hlt) Hit.out (by rw [itemAt_16 H0.out hk0 (by simpa using t4) h3, Nat.min_eq_left (by omega)])
                case measure => simp [intOf]; omega
            · have t5 : decide (3 ≤ (runLen xs k : Int)) = false := by simp; omega
              go_wp2_with (first | (at_builtin; refine wpList_app2 rfl _ _ rfl elItem (Hown1.out.alloc _) rfl rfl (by simp) rfl rfl (by omega) (by simp; omega) ?_; intro v' w' hown' hbel' _))
              go_quiet (fail)
              go_wp2_with (first | (at_builtin; refine wpList_app2 rfl _ _ rfl elItem (own_below Hown1.out (drawn3 w1 _ _ _ _ _)) rfl rfl (by simp) rfl rfl (by omega) (by simp; omega) ?_; intro v' w' hown' hbel' _))
              go_roundw
              case rel =>
                refine ⟨k + 1, pre ++ [⟨rd xs k, 0, 0⟩], by omega, by go_num, by simp; omega, ?_, ?_, (below_seq Hbel1.out (Nat.le_refl _) (drawn3 w1 _ _ _ _ _)).trans hbel'⟩
                · rw [List.length_append, itemCells_append]; exact hown'
                · exact items_next (by rw [Hlen.out]; exact hlt) Hit.out (itemAt_one (.inr ⟨H0.out, .inr (.inr (by omega))⟩))
              case measure => simp [intOf]; omega
        · have t3 : decide (0 < (k : Int)) = false := by simp; omega
          go_wp2_with (first | (at_builtin; refine wpList_app2 rfl _ _ rfl elItem (Hown1.out.alloc _) rfl rfl (by simp) rfl rfl (by omega) (by simp; omega) ?_; intro v' w' hown' hbel' _))
          go_quiet (fail)
          go_wp2_with (first | (at_builtin; refine wpList_app2 rfl _ _ rfl elItem (own_below Hown1.out (drawn3 w1 _ _ _ _ _)) rfl rfl (by simp) rfl rfl (by omega) (by simp; omega) ?_; intro v' w' hown' hbel' _))
          go_roundw
          case rel =>
            refine ⟨k + 1, pre ++ [⟨rd xs k, 0, 0⟩], by omega, by go_num, by simp; omega, ?_, ?_, (below_seq Hbel1.out (Nat.le_refl _) (drawn3 w1 _ _ _ _ _)).trans hbel'⟩
            · rw [List.length_append, itemCells_append]; exact hown'
            · exact items_next (by rw [Hlen.out]; exact hlt) Hit.out (itemAt_one (.inr ⟨H0.out, .inl (by omega)⟩))
          case measure => simp [intOf]; omega
    · obtain rfl : k = n := by omega
      go_wp2
      go_ret
      have e : items xs = pre := by rw [Hit.out, itemsFrom_end xs _ _ (by rw [Hlen.out]; exact Nat.le_refl _), List.append_nil]
      rw [e]
      exact ⟨_, rfl, Hown.out, Hbel.out⟩
#print axioms Press_calls
end Go.Proofs.Ytempgkglhgelkaa
