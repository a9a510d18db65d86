/-
  The walk of the reference's Lengths.
-/
import Derived.Test.YtempgkglhgelkaaRefO
import Derived.Test.YtempgkglhgelkaaLens
import Derived.Test.YtempgkglhgelkaaLast
namespace Go.Proofs.Ytempgkglhgelkaa
open Go.RowKit

theorem not_all_upto {l : List Int} {m n : Nat} (hl : l.length = n) {F : Bool} (h : F = true ↔ ∀ q, q < n → rd l q ≤ m) (hF : F = false) : ¬ l.all (fun x => decide (x ≤ (m : Int))) = true := fun hc => by
  have : F = true := h.2 (fun q hq => by
    rcases Int.lt_or_le (m : Int) (rd l q) with g | g
    · exact (not_all_of (by omega) g hc).elim
    · exact g)
  rw [hF] at this
  cases this
set_option maxHeartbeats 4000000 in
set_option maxRecDepth 200000 in
theorem refLengths_calls (m : Nat) (A : Option Addr) (n cap : Nat) (ws : List Int) (w : World) (hm : 1 ≤ m) (hR : Rd w .i64 A n ws) (hA : A = none → n = 0 ∧ cap = 0) (hn : n ≤ 100000) (hw : ∀ x ∈ ws, 0 ≤ x) (hsum : ws.sum ≤ 4611686018427387904) (hp : (posTo ws ws.length).length ≤ 2 ^ m) :
    Calls Try.prog 20 #[.int .i64 m, .slice A n cap] w fun e w' => ∃ v, e = .returned v ∧ w'.ownsRow w.heap.size 3 1 v n (ints .i64 (lensOf m ws)) ∧ Below w.heap.size w w' := by
  have HR := Lib.hid hR
  have hlen := Lib.hid hR.1
  have Hw := Lib.hid hw
  have Hp := Lib.hid hp
  obtain ⟨R, hRR⟩ : ∃ R, lensOf m ws = R := ⟨_, rfl⟩
  rw [hRR]
  have HRR := Lib.hid hRR
  clear hR hw hp hRR
  go_enter Try.func20, Try.ntmps20
  go_wp2_with (at_builtin; refine wpList_appRd rfl _ _ rfl elIntN (ys := []) (World.ownsRow_lit w #[] 0 (Nat.le_refl _) (by decide) rfl) rfl rfl (HR.out.alloc _) hA (by omega) (by simp) ?_; intro v' w' hown hg; rw [Nat.zero_add, List.nil_append] at hown; have Hown := Lib.hid hown; have Hg := Lib.hid hg; clear hown hg)
  have hsz : w.heap.size ≤ w'.heap.size := by have := Hg.out.size; simp at this; omega
  have hb1 : Below w.heap.size w w' := ((Below.refl _ _).alloc (Nat.le_refl _) _).grown Hg.out (by simp) (fun k hk => by simp [Value.ownBlock] at hk; omega)
  have Hb1 := Lib.hid hb1
  obtain ⟨B, c, rfl⟩ := own_slice Hown.out
  clear hb1 Hg
  go_loopg [] ws.sum.toNat (fun g wr => ∃ wt : List Int, Hid (lensM g m wt = R) ∧ Hid (wt.sum ≤ g) ∧ Hid (∀ x ∈ wt, 0 ≤ x) ∧ Hid ((posTo wt wt.length).length ≤ 2 ^ m) ∧ Hid (wt.length = n) ∧ Hid (wt.sum ≤ 4611686018427387904) ∧ Hid (wr.ownsRow w.heap.size 3 1 (.slice B n c) n (ints .i64 wt)) ∧ Hid (Below w.heap.size w wr))
  case atStart => exact ⟨ws, HRR.out, by have := sum_nonneg' ws Hw.out; show _ ≤ _; omega, Hw.out, Hp.out, hlen.out, hsum, Hown.out, Hb1.out⟩
  case round =>
    obtain ⟨wt, H1, H2, H3, H4, H5, H6, H7, H8⟩ := hrel
    obtain ⟨g, hg⟩ : ∃ g, g = gk := ⟨gk, rfl⟩
    subst hg
    have hol := Lib.hid (onceM_length wt)
    obtain ⟨B', c', e1, hc', hrd⟩ := own_rd H7.out
    cases e1
    have Hrd := Lib.hid hrd
    clear hrd
    go_wp2_with fail
    refine (refOnce_calls B n c wt _ Hrd.out hn H3.out H6.out).mono ?_
    rintro e w1 ⟨v, rfl, ho, hb⟩
    obtain ⟨D, d, rfl, hd, hrdo⟩ := own_rd ho
    have Ho := Lib.hid ho
    have Hb := Lib.hid hb
    have Hrdo := Lib.hid hrdo
    clear ho hb hrdo
    go_wp2
    go_loopg [7, 8] n (fun g2 f i wy => ∃ (j : Nat) (F : Bool), j + g2 = n ∧ f = .bool F ∧ i = .int .i64 j ∧ Hid (F = true ↔ ∀ q, q < j → rd (onceM wt) q ≤ m) ∧ w1 = wy)
    case atStart => exact ⟨0, true, by omega, rfl, rfl, ⟨fun _ q hq => by omega, fun _ => rfl⟩, rfl⟩
    case round =>
      obtain ⟨j, F, hj, rfl, rfl, HF, rfl⟩ := hrel
      by_cases hlt : j < n
      · obtain ⟨b, o, rfl, hcx⟩ := Hrdo.out.2 (by omega)
        have z := hcx j hlt
        clear hcx
        cases F
        · go_wp2
          go_roundg (gk - 1)
          case measure => omega
          case rel => exact ⟨j + 1, false, by omega, rfl, by go_num, ⟨fun h => (by cases h), fun h => (by have h9 := HF.out.2 (fun q hq => h q (by omega)); simp at h9)⟩, rfl⟩
        · rcases Int.lt_or_le (m : Int) (rd (onceM wt) j) with hx | hx
          · go_wp2
            go_roundg (gk - 1)
            case measure => omega
            case rel => exact ⟨j + 1, false, by omega, by rw [decide_eq_false (by omega)], by go_num, ⟨fun h => (by cases h), fun h => (by have := h j (by omega); omega)⟩, rfl⟩
          · go_wp2
            go_roundg (gk - 1)
            case measure => omega
            case rel =>
              refine ⟨j + 1, true, by omega, rfl, by go_num, ⟨fun _ q hq => ?_, fun _ => rfl⟩, rfl⟩
              by_cases e : q < j
              · exact HF.out.1 (by simp) q e
              · rw [show q = j from by omega]; exact hx
      · obtain rfl : j = n := by omega
        cases F
        · have hno := not_all_upto (by rw [hol.out, H5.out]) (F := false) (by simpa using HF.out) rfl
          have hless := halve_less H3.out hm H4.out hno
          have hh0 := (sum_halve wt H3.out).1
          obtain ⟨g', hg'⟩ : ∃ g', g = g' + 1 := ⟨g - 1, by have := H2.out; omega⟩
          have Hstep : Hid (lensM g' m (halve wt) = R) := by
            show lensM g' m (halve wt) = R
            have h9 := H1.out
            rw [hg'] at h9
            unfold lensM at h9
            rw [if_neg hno] at h9
            exact h9
          have Hless := Lib.hid hless
          have Hno := Lib.hid hno
          have Hg' := Lib.hid hg'
          have hrow : w1.ownsRow w.heap.size 3 1 (.slice B j c) j (ints .i64 wt) := own_below H7.out Hb.out
          have Hrow := Lib.hid hrow
          have H9 := Lib.hid (H8.out.trans (Hb.out.mono H8.out.size))
          clear hless hno hg' hh0 hrow
          go_wp2
          go_loopg [9] j (fun g2 i wy => ∃ (q : Nat) (l : List Int), q + g2 = j ∧ i = .int .i64 q ∧ Hid (∀ t, t < j → rd l t = if t < q then rd (halve wt) t else rd wt t) ∧ Hid (wy.ownsRow w.heap.size 3 1 (.slice B j c) j (ints .i64 l)) ∧ Hid (Below w.heap.size w wy))
          case atStart => exact ⟨0, wt, by omega, rfl, fun t ht => by rw [if_neg (by omega)], Hrow.out, H9.out⟩
          case round =>
            obtain ⟨q, l, hq, rfl, Hl, Hor, Hbl⟩ := hrel
            have hll : l.length = j := by have := Hor.out.1; rw [ints_length] at this; omega
            by_cases hqn : q < j
            · obtain ⟨gb, cb, e1, hb0, hb1, hcb, hcell, hfz⟩ := own_form Hor.out (by omega)
              cases e1
              have z2 := hcell q _ (ints_get (by omega))
              have zf := hfz q
              have hv : rd l q = rd wt q := by rw [Hl.out q hqn, if_neg (by omega)]
              have hrange := nonneg_rd H3.out H6.out q (by rw [H5.out]; exact hqn)
              rw [← hv] at hrange
              have hhv : rd (halve wt) q = (rd l q + 1) / 2 := by rw [rd_halve, hv]
              have Hhv := Lib.hid hhv
              have Hll := Lib.hid hll
              clear hcell hfz hv hhv hll
              go_upto_region 13 with fail
              refine wp_region_last (n := 14) (on := ⟨_, _, _, _, _, _⟩) (S := fun W => W.cell? ⟨gb, q, none⟩ = some (.int .i64 (rd l q))) (by kernel_rfl) rfl (by kernel_rfl) (z2) (fun hHeld => ?_)
              refine' wpAnyH_take (i := 0) (oi := ⟨_, _, _, _, _, _⟩) (v := _) rfl (by kernel_rfl) (by kernel_rfl) (by kernel_rfl) (fun _ _ _ h => h) (Or.inl ⟨by rfl, ?hy0⟩) (by assumption) ?rest0
              case hy0 => (intro w hSw; (try dsimp only at hSw); go_simp; try with_reducible rfl)
              try simp only [Act.put, List.setIfInBounds_toArray, List.set_cons_zero, List.set_cons_succ]
              refine' wpAnyH_take (i := 1) (oi := ⟨_, _, _, _, _, _⟩) (v := _) rfl (by kernel_rfl) (by kernel_rfl) (by kernel_rfl) (fun _ _ _ h => h) (Or.inl ⟨by rfl, ?hy1⟩) (by assumption) ?rest1
              case hy1 => (intro w hSw; (try dsimp only at hSw); go_simp; try with_reducible rfl)
              try simp only [Act.put, List.setIfInBounds_toArray, List.set_cons_zero, List.set_cons_succ]
              refine' wpAnyH_take (i := 2) (oi := ⟨_, _, _, _, _, _⟩) (v := _) rfl (by kernel_rfl) (by kernel_rfl) (by kernel_rfl) (fun _ _ _ h => h) (Or.inl ⟨by rfl, ?hy2⟩) (by assumption) ?rest2
              case hy2 => (intro w hSw; (try dsimp only at hSw); go_simp; try with_reducible rfl)
              try simp only [Act.put, List.setIfInBounds_toArray, List.set_cons_zero, List.set_cons_succ]
              refine' wpAnyH_take (i := 3) (oi := ⟨_, _, _, _, _, _⟩) (v := _) rfl (by kernel_rfl) (by kernel_rfl) (by kernel_rfl) (fun _ _ _ h => h) (Or.inl ⟨by rfl, ?hy3⟩) (by assumption) ?rest3
              case hy3 => (intro w hSw; (try dsimp only at hSw); go_simp; try with_reducible rfl)
              try simp only [Act.put, List.setIfInBounds_toArray, List.set_cons_zero, List.set_cons_succ]
              refine' wpAnyH_take (i := 4) (oi := ⟨_, _, _, _, _, _⟩) (v := _) rfl (by kernel_rfl) (by kernel_rfl) (by kernel_rfl) (fun _ _ _ h => h) (Or.inl ⟨by rfl, ?hy4⟩) (by assumption) ?rest4
              case hy4 => (intro w hSw; (try dsimp only at hSw); go_simp; try with_reducible rfl)
              try simp only [Act.put, List.setIfInBounds_toArray, List.set_cons_zero, List.set_cons_succ]
              refine' wpAnyH_take (i := 5) (oi := ⟨_, _, _, _, _, _⟩) (v := _) rfl (by kernel_rfl) (by kernel_rfl) (by kernel_rfl) (fun _ _ _ h => h) (Or.inl ⟨by rfl, ?hy5⟩) (by assumption) ?rest5
              case hy5 => (intro w hSw; (try dsimp only at hSw); go_simp; try with_reducible rfl)
              try simp only [Act.put, List.setIfInBounds_toArray, List.set_cons_zero, List.set_cons_succ]
              refine' wpAnyH_take (i := 6) (oi := ⟨_, _, _, _, _, _⟩) (v := _) rfl (by kernel_rfl) (by kernel_rfl) (by kernel_rfl) (fun _ _ _ h => h) (Or.inl ⟨by rfl, ?hy6⟩) (by assumption) ?rest6
              case hy6 => (intro w hSw; (try dsimp only at hSw); go_simp; try with_reducible rfl)
              try simp only [Act.put, List.setIfInBounds_toArray, List.set_cons_zero, List.set_cons_succ]
              refine' wpAnyH_take (i := 7) (oi := ⟨_, _, _, _, _, _⟩) (v := _) rfl (by kernel_rfl) (by kernel_rfl) (by kernel_rfl) (fun _ _ _ h => h) (Or.inl ⟨by rfl, ?hy7⟩) (by assumption) ?rest7
              case hy7 => (intro w hSw; (try dsimp only at hSw); go_simp; try with_reducible rfl)
              try simp only [Act.put, List.setIfInBounds_toArray, List.set_cons_zero, List.set_cons_succ]
              refine' wpAnyH_take (i := 8) (oi := ⟨_, _, _, _, _, _⟩) (v := _) rfl (by kernel_rfl) (by kernel_rfl) (by kernel_rfl) (fun _ _ _ h => h) (Or.inl ⟨by rfl, ?hy8⟩) (by assumption) ?rest8
              case hy8 => (intro w hSw; (try dsimp only at hSw); go_simp; try with_reducible rfl)
              try simp only [Act.put, List.setIfInBounds_toArray, List.set_cons_zero, List.set_cons_succ]
              refine' wpAnyH_take (i := 9) (oi := ⟨_, _, _, _, _, _⟩) (v := _) rfl (by kernel_rfl) (by kernel_rfl) (by kernel_rfl) (fun _ _ _ h => h) (Or.inl ⟨by rfl, ?hy9⟩) (by assumption) ?rest9
              case hy9 => (intro w hSw; (try dsimp only at hSw); go_simp; try with_reducible rfl)
              try simp only [Act.put, List.setIfInBounds_toArray, List.set_cons_zero, List.set_cons_succ]
              refine' wpAnyH_take (i := 10) (oi := ⟨_, _, _, _, _, _⟩) (v := _) rfl (by kernel_rfl) (by kernel_rfl) (by kernel_rfl) (fun _ _ _ h => h) (Or.inl ⟨by rfl, ?hy10⟩) (by assumption) ?rest10
              case hy10 => (intro w hSw; (try dsimp only at hSw); go_simp; try with_reducible rfl)
              try simp only [Act.put, List.setIfInBounds_toArray, List.set_cons_zero, List.set_cons_succ]
              refine' wpAnyH_take (i := 11) (oi := ⟨_, _, _, _, _, _⟩) (v := _) rfl (by kernel_rfl) (by kernel_rfl) (by kernel_rfl) (fun _ _ _ h => h) (Or.inl ⟨by rfl, ?hy11⟩) (by assumption) ?rest11
              case hy11 => (intro w hSw; (try dsimp only at hSw); go_simp; try with_reducible rfl)
              try simp only [Act.put, List.setIfInBounds_toArray, List.set_cons_zero, List.set_cons_succ]
              refine' wpAnyH_take (i := 12) (oi := ⟨_, _, _, _, _, _⟩) (v := _) rfl (by kernel_rfl) (by kernel_rfl) (by kernel_rfl) (fun _ _ _ h => h) (Or.inl ⟨by rfl, ?hy12⟩) (by assumption) ?rest12
              case hy12 => (intro w hSw; (try dsimp only at hSw); go_simp; try with_reducible rfl)
              try simp only [Act.put, List.setIfInBounds_toArray, List.set_cons_zero, List.set_cons_succ]
              refine' wpAnyH_take (i := 13) (oi := ⟨_, _, _, _, _, _⟩) (v := _) rfl (by kernel_rfl) (by kernel_rfl) (by kernel_rfl) (fun _ _ _ h => h) (Or.inl ⟨by rfl, ?hy13⟩) (by assumption) ?rest13
              case hy13 => (intro w hSw; (try dsimp only at hSw); go_simp; try with_reducible rfl)
              try simp only [Act.put, List.setIfInBounds_toArray, List.set_cons_zero, List.set_cons_succ]
              refine wpAnyH_done (by kernel_rfl) ?_ _
              change wpList _ _ _ _ _ _
              have ev : rd l q / 2 + rd l q % 2 = (rd l q + 1) / 2 := by omega
              go_wp2

              go_roundg (gk - 1)
              case measure => omega
              case rel =>
                refine ⟨q + 1, l.set q ((rd l q + 1) / 2), by omega, by go_num, ?_, ?_, (Hbl.out.setCell (p := ⟨gb, q, none⟩) hb0 _).drew⟩
                · intro t ht
                  rw [rd_set (by rw [Hll.out]; exact hqn), Hl.out t ht]
                  by_cases e : q = t
                  · subst e
                    rw [if_pos rfl, if_pos (by omega), Hhv.out]
                  · rw [if_neg e]
                    by_cases e2 : t < q
                    · rw [if_pos e2, if_pos (by omega)]
                    · rw [if_neg e2, if_neg (by omega)]
                · show World.ownsRow _ _ _ _ _ _ _
                  rw [ints_set]
                  exact own_below (own_store Hor.out q _) (Below.refl _ _).drew
            · obtain rfl : q = j := by omega
              have el : l = halve wt := ext_rd' (by rw [hll, halve_length, H5.out]) (fun t ht => by rw [Hl.out t (by omega), if_pos (by omega)])
              subst el
              go_wp2
              go_roundg g'
              case measure => have := Hg'.out; omega
              case rel => exact ⟨halve wt, Hstep.out, by have := Hless.out; have := H2.out; have := Hg'.out; show _ ≤ _; omega, halve_nonneg H3.out, by rw [halve_length, posTo_halve]; exact H4.out, by rw [halve_length]; exact H5.out, by have := Hless.out; have := H6.out; show _ ≤ _; omega, Hor.out, Hbl.out⟩
        · have hall : (onceM wt).all (fun x => decide (x ≤ (m : Int))) = true := all_of (fun q hq => HF.out.1 (by simp) q (by rw [hol.out, H5.out] at hq; exact hq))
          have hR : R = onceM wt := by
            rw [← H1.out]
            cases g with
            | zero => rfl
            | succ g => unfold lensM; rw [if_pos hall]
          have HR2 := Lib.hid hR
          clear hall hR
          go_wp2
          try rw [Exit.noGoto_ret]
          go_ret
          rw [HR2.out]
          exact ⟨_, rfl, own_mono Ho.out H8.out.size, H8.out.trans (Hb.out.mono H8.out.size)⟩
end Go.Proofs.Ytempgkglhgelkaa
