/-
  Texts joined into one file: RefLens, HuffR, RefB, StepA.
-/
import Derived.Test.YtempgkglhgelkaaDoorJCodesPuts12
import Derived.Test.YtempgkglhgelkaaDoorJCodesPuts9
import Derived.Test.YtempgkglhgelkaaDoorJCodesPuts4
import Derived.Test.YtempgkglhgelkaaDoorJCodesPuts3
import Derived.Test.YtempgkglhgelkaaDoorJCodesPuts5
import Derived.Test.YtempgkglhgelkaaDoorJCodesPuts8
import Derived.Test.YtempgkglhgelkaaDoorJCodesPuts6
import Derived.Test.YtempgkglhgelkaaDoorJCodesPuts2
/-
  The walk of the reference's Lengths.
-/
namespace Go.Proofs.YtempgkglhgelkaaDoor
open Go.RowKit

theorem not_all_upto {l : List Int} {m n : Nat} (hl : l.length = n) {F : Bool} (h : F = true ↔ ∀ q, q < n → rd l q ≤ m) (hF : F = false) : ¬ l.all (fun x => decide (x ≤ (m : Int))) = true := fun hc => by
  have : F = true := h.2 (fun q hq => by
    rcases Int.lt_or_le (m : Int) (rd l q) with g | g
    · exact (not_all_of (by omega) g hc).elim
    · exact g)
  rw [hF] at this
  cases this
set_option maxHeartbeats 4000000 in
set_option maxRecDepth 200000 in
theorem refLengths_calls (m : Nat) (A : Option Addr) (n cap : Nat) (ws : List Int) (w : World) (hm : 1 ≤ m) (hR : Rd w .i64 A n ws) (hA : A = none → n = 0 ∧ cap = 0) (hn : n ≤ 100000) (hw : ∀ x ∈ ws, 0 ≤ x) (hsum : ws.sum ≤ 4611686018427387904) (hp : (posTo ws ws.length).length ≤ 2 ^ m) :
    Calls Tryd.prog 56 #[.int .i64 m, .slice A n cap] w fun e w' => ∃ v, e = .returned v ∧ w'.ownsRow w.heap.size 3 1 v n (ints .i64 (lensOf m ws)) ∧ Below w.heap.size w w' := by
  have HR := Lib.hid hR
  have hlen := Lib.hid hR.1
  have Hw := Lib.hid hw
  have Hp := Lib.hid hp
  obtain ⟨R, hRR⟩ : ∃ R, lensOf m ws = R := ⟨_, rfl⟩
  rw [hRR]
  have HRR := Lib.hid hRR
  clear hR hw hp hRR
  go_enter Tryd.func56, Tryd.ntmps56
  go_wp2_with (at_builtin; refine wpList_appRd rfl _ _ rfl elIntN (ys := []) (World.ownsRow_lit w #[] 0 (Nat.le_refl _) (by decide) rfl) rfl rfl (HR.out.alloc _) hA (by omega) (by simp) ?_; intro v' w' hown hg; rw [Nat.zero_add, List.nil_append] at hown; have Hown := Lib.hid hown; have Hg := Lib.hid hg; clear hown hg)
  have hsz : w.heap.size ≤ w'.heap.size := by have := Hg.out.size; simp at this; omega
  have hb1 : Below w.heap.size w w' := ((Below.refl _ _).alloc (Nat.le_refl _) _).grown Hg.out (by simp) (fun k hk => by simp [Value.ownBlock] at hk; omega)
  have Hb1 := Lib.hid hb1
  obtain ⟨B, c, rfl⟩ := own_slice Hown.out
  clear hb1 Hg
  go_loopg [] ws.sum.toNat (fun g wr => ∃ wt : List Int, Hid (lensM g m wt = R) ∧ Hid (wt.sum ≤ g) ∧ Hid (∀ x ∈ wt, 0 ≤ x) ∧ Hid ((posTo wt wt.length).length ≤ 2 ^ m) ∧ Hid (wt.length = n) ∧ Hid (wt.sum ≤ 4611686018427387904) ∧ Hid (wr.ownsRow w.heap.size 3 1 (.slice B n c) n (ints .i64 wt)) ∧ Hid (Below w.heap.size w wr))
  case atStart => exact ⟨ws, HRR.out, by have := sum_nonneg' ws Hw.out; show _ ≤ _; omega, Hw.out, Hp.out, hlen.out, hsum, Hown.out, Hb1.out⟩
  case round =>
    obtain ⟨wt, H1, H2, H3, H4, H5, H6, H7, H8⟩ := hrel
    obtain ⟨g, hg⟩ : ∃ g, g = gk := ⟨gk, rfl⟩
    subst hg
    have hol := Lib.hid (onceM_length wt)
    obtain ⟨B', c', e1, hc', hrd⟩ := own_rd H7.out
    cases e1
    have Hrd := Lib.hid hrd
    clear hrd
    go_wp2_with fail
    refine (refOnce_calls B n c wt _ Hrd.out hn H3.out H6.out).mono ?_
    rintro e w1 ⟨v, rfl, ho, hb⟩
    obtain ⟨D, d, rfl, hd, hrdo⟩ := own_rd ho
    have Ho := Lib.hid ho
    have Hb := Lib.hid hb
    have Hrdo := Lib.hid hrdo
    clear ho hb hrdo
    go_wp2
    go_loopg [7, 8] n (fun g2 f i wy => ∃ (j : Nat) (F : Bool), j + g2 = n ∧ f = .bool F ∧ i = .int .i64 j ∧ Hid (F = true ↔ ∀ q, q < j → rd (onceM wt) q ≤ m) ∧ w1 = wy)
    case atStart => exact ⟨0, true, by omega, rfl, rfl, ⟨fun _ q hq => by omega, fun _ => rfl⟩, rfl⟩
    case round =>
      obtain ⟨j, F, hj, rfl, rfl, HF, rfl⟩ := hrel
      by_cases hlt : j < n
      · obtain ⟨b, o, rfl, hcx⟩ := Hrdo.out.2 (by omega)
        have z := hcx j hlt
        clear hcx
        cases F
        · go_wp2
          go_roundg (gk - 1)
          case measure => omega
          case rel => exact ⟨j + 1, false, by omega, rfl, by go_num, ⟨fun h => (by cases h), fun h => (by have h9 := HF.out.2 (fun q hq => h q (by omega)); simp at h9)⟩, rfl⟩
        · rcases Int.lt_or_le (m : Int) (rd (onceM wt) j) with hx | hx
          · go_wp2
            go_roundg (gk - 1)
            case measure => omega
            case rel => exact ⟨j + 1, false, by omega, by rw [decide_eq_false (by omega)], by go_num, ⟨fun h => (by cases h), fun h => (by have := h j (by omega); omega)⟩, rfl⟩
          · go_wp2
            go_roundg (gk - 1)
            case measure => omega
            case rel =>
              refine ⟨j + 1, true, by omega, rfl, by go_num, ⟨fun _ q hq => ?_, fun _ => rfl⟩, rfl⟩
              by_cases e : q < j
              · exact HF.out.1 (by simp) q e
              · rw [show q = j from by omega]; exact hx
      · obtain rfl : j = n := by omega
        cases F
        · have hno := not_all_upto (by rw [hol.out, H5.out]) (F := false) (by simpa using HF.out) rfl
          have hless := halve_less H3.out hm H4.out hno
          have hh0 := (sum_halve wt H3.out).1
          obtain ⟨g', hg'⟩ : ∃ g', g = g' + 1 := ⟨g - 1, by have := H2.out; omega⟩
          have Hstep : Hid (lensM g' m (halve wt) = R) := by
            show lensM g' m (halve wt) = R
            have h9 := H1.out
            rw [hg'] at h9
            unfold lensM at h9
            rw [if_neg hno] at h9
            exact h9
          have Hless := Lib.hid hless
          have Hno := Lib.hid hno
          have Hg' := Lib.hid hg'
          have hrow : w1.ownsRow w.heap.size 3 1 (.slice B j c) j (ints .i64 wt) := own_below H7.out Hb.out
          have Hrow := Lib.hid hrow
          have H9 := Lib.hid (H8.out.trans (Hb.out.mono H8.out.size))
          clear hless hno hg' hh0 hrow
          go_wp2
          go_loopg [9] j (fun g2 i wy => ∃ (q : Nat) (l : List Int), q + g2 = j ∧ i = .int .i64 q ∧ Hid (∀ t, t < j → rd l t = if t < q then rd (halve wt) t else rd wt t) ∧ Hid (wy.ownsRow w.heap.size 3 1 (.slice B j c) j (ints .i64 l)) ∧ Hid (Below w.heap.size w wy))
          case atStart => exact ⟨0, wt, by omega, rfl, fun t ht => by rw [if_neg (by omega)], Hrow.out, H9.out⟩
          case round =>
            obtain ⟨q, l, hq, rfl, Hl, Hor, Hbl⟩ := hrel
            have hll : l.length = j := by have := Hor.out.1; rw [ints_length] at this; omega
            by_cases hqn : q < j
            · obtain ⟨gb, cb, e1, hb0, hb1, hcb, hcell, hfz⟩ := own_form Hor.out (by omega)
              cases e1
              have z2 := hcell q _ (ints_get (by omega))
              have zf := hfz q
              have hv : rd l q = rd wt q := by rw [Hl.out q hqn, if_neg (by omega)]
              have hrange := nonneg_rd H3.out H6.out q (by rw [H5.out]; exact hqn)
              rw [← hv] at hrange
              have hhv : rd (halve wt) q = (rd l q + 1) / 2 := by rw [rd_halve, hv]
              have Hhv := Lib.hid hhv
              have Hll := Lib.hid hll
              clear hcell hfz hv hhv hll
              go_upto_region 13 with fail
              refine wp_region_last (n := 14) (on := ⟨_, _, _, _, _, _⟩) (S := fun W => W.cell? ⟨gb, q, none⟩ = some (.int .i64 (rd l q))) (by kernel_rfl) rfl (by kernel_rfl) (z2) (fun hHeld => ?_)
              refine' wpAnyH_take (i := 0) (oi := ⟨_, _, _, _, _, _⟩) (v := _) rfl (by kernel_rfl) (by kernel_rfl) (by kernel_rfl) (fun _ _ _ h => h) (Or.inl ⟨by rfl, ?hy0⟩) (by assumption) ?rest0
              case hy0 => (intro w hSw; (try dsimp only at hSw); go_simp; try with_reducible rfl)
              try simp only [Act.put, List.setIfInBounds_toArray, List.set_cons_zero, List.set_cons_succ]
              refine' wpAnyH_take (i := 1) (oi := ⟨_, _, _, _, _, _⟩) (v := _) rfl (by kernel_rfl) (by kernel_rfl) (by kernel_rfl) (fun _ _ _ h => h) (Or.inl ⟨by rfl, ?hy1⟩) (by assumption) ?rest1
              case hy1 => (intro w hSw; (try dsimp only at hSw); go_simp; try with_reducible rfl)
              try simp only [Act.put, List.setIfInBounds_toArray, List.set_cons_zero, List.set_cons_succ]
              refine' wpAnyH_take (i := 2) (oi := ⟨_, _, _, _, _, _⟩) (v := _) rfl (by kernel_rfl) (by kernel_rfl) (by kernel_rfl) (fun _ _ _ h => h) (Or.inl ⟨by rfl, ?hy2⟩) (by assumption) ?rest2
              case hy2 => (intro w hSw; (try dsimp only at hSw); go_simp; try with_reducible rfl)
              try simp only [Act.put, List.setIfInBounds_toArray, List.set_cons_zero, List.set_cons_succ]
              refine' wpAnyH_take (i := 3) (oi := ⟨_, _, _, _, _, _⟩) (v := _) rfl (by kernel_rfl) (by kernel_rfl) (by kernel_rfl) (fun _ _ _ h => h) (Or.inl ⟨by rfl, ?hy3⟩) (by assumption) ?rest3
              case hy3 => (intro w hSw; (try dsimp only at hSw); go_simp; try with_reducible rfl)
              try simp only [Act.put, List.setIfInBounds_toArray, List.set_cons_zero, List.set_cons_succ]
              refine' wpAnyH_take (i := 4) (oi := ⟨_, _, _, _, _, _⟩) (v := _) rfl (by kernel_rfl) (by kernel_rfl) (by kernel_rfl) (fun _ _ _ h => h) (Or.inl ⟨by rfl, ?hy4⟩) (by assumption) ?rest4
              case hy4 => (intro w hSw; (try dsimp only at hSw); go_simp; try with_reducible rfl)
              try simp only [Act.put, List.setIfInBounds_toArray, List.set_cons_zero, List.set_cons_succ]
              refine' wpAnyH_take (i := 5) (oi := ⟨_, _, _, _, _, _⟩) (v := _) rfl (by kernel_rfl) (by kernel_rfl) (by kernel_rfl) (fun _ _ _ h => h) (Or.inl ⟨by rfl, ?hy5⟩) (by assumption) ?rest5
              case hy5 => (intro w hSw; (try dsimp only at hSw); go_simp; try with_reducible rfl)
              try simp only [Act.put, List.setIfInBounds_toArray, List.set_cons_zero, List.set_cons_succ]
              refine' wpAnyH_take (i := 6) (oi := ⟨_, _, _, _, _, _⟩) (v := _) rfl (by kernel_rfl) (by kernel_rfl) (by kernel_rfl) (fun _ _ _ h => h) (Or.inl ⟨by rfl, ?hy6⟩) (by assumption) ?rest6
              case hy6 => (intro w hSw; (try dsimp only at hSw); go_simp; try with_reducible rfl)
              try simp only [Act.put, List.setIfInBounds_toArray, List.set_cons_zero, List.set_cons_succ]
              refine' wpAnyH_take (i := 7) (oi := ⟨_, _, _, _, _, _⟩) (v := _) rfl (by kernel_rfl) (by kernel_rfl) (by kernel_rfl) (fun _ _ _ h => h) (Or.inl ⟨by rfl, ?hy7⟩) (by assumption) ?rest7
              case hy7 => (intro w hSw; (try dsimp only at hSw); go_simp; try with_reducible rfl)
              try simp only [Act.put, List.setIfInBounds_toArray, List.set_cons_zero, List.set_cons_succ]
              refine' wpAnyH_take (i := 8) (oi := ⟨_, _, _, _, _, _⟩) (v := _) rfl (by kernel_rfl) (by kernel_rfl) (by kernel_rfl) (fun _ _ _ h => h) (Or.inl ⟨by rfl, ?hy8⟩) (by assumption) ?rest8
              case hy8 => (intro w hSw; (try dsimp only at hSw); go_simp; try with_reducible rfl)
              try simp only [Act.put, List.setIfInBounds_toArray, List.set_cons_zero, List.set_cons_succ]
              refine' wpAnyH_take (i := 9) (oi := ⟨_, _, _, _, _, _⟩) (v := _) rfl (by kernel_rfl) (by kernel_rfl) (by kernel_rfl) (fun _ _ _ h => h) (Or.inl ⟨by rfl, ?hy9⟩) (by assumption) ?rest9
              case hy9 => (intro w hSw; (try dsimp only at hSw); go_simp; try with_reducible rfl)
              try simp only [Act.put, List.setIfInBounds_toArray, List.set_cons_zero, List.set_cons_succ]
              refine' wpAnyH_take (i := 10) (oi := ⟨_, _, _, _, _, _⟩) (v := _) rfl (by kernel_rfl) (by kernel_rfl) (by kernel_rfl) (fun _ _ _ h => h) (Or.inl ⟨by rfl, ?hy10⟩) (by assumption) ?rest10
              case hy10 => (intro w hSw; (try dsimp only at hSw); go_simp; try with_reducible rfl)
              try simp only [Act.put, List.setIfInBounds_toArray, List.set_cons_zero, List.set_cons_succ]
              refine' wpAnyH_take (i := 11) (oi := ⟨_, _, _, _, _, _⟩) (v := _) rfl (by kernel_rfl) (by kernel_rfl) (by kernel_rfl) (fun _ _ _ h => h) (Or.inl ⟨by rfl, ?hy11⟩) (by assumption) ?rest11
              case hy11 => (intro w hSw; (try dsimp only at hSw); go_simp; try with_reducible rfl)
              try simp only [Act.put, List.setIfInBounds_toArray, List.set_cons_zero, List.set_cons_succ]
              refine' wpAnyH_take (i := 12) (oi := ⟨_, _, _, _, _, _⟩) (v := _) rfl (by kernel_rfl) (by kernel_rfl) (by kernel_rfl) (fun _ _ _ h => h) (Or.inl ⟨by rfl, ?hy12⟩) (by assumption) ?rest12
              case hy12 => (intro w hSw; (try dsimp only at hSw); go_simp; try with_reducible rfl)
              try simp only [Act.put, List.setIfInBounds_toArray, List.set_cons_zero, List.set_cons_succ]
              refine' wpAnyH_take (i := 13) (oi := ⟨_, _, _, _, _, _⟩) (v := _) rfl (by kernel_rfl) (by kernel_rfl) (by kernel_rfl) (fun _ _ _ h => h) (Or.inl ⟨by rfl, ?hy13⟩) (by assumption) ?rest13
              case hy13 => (intro w hSw; (try dsimp only at hSw); go_simp; try with_reducible rfl)
              try simp only [Act.put, List.setIfInBounds_toArray, List.set_cons_zero, List.set_cons_succ]
              refine wpAnyH_done (by kernel_rfl) ?_ _
              change wpList _ _ _ _ _ _
              have ev : rd l q / 2 + rd l q % 2 = (rd l q + 1) / 2 := by omega
              go_wp2

              go_roundg (gk - 1)
              case measure => omega
              case rel =>
                refine ⟨q + 1, l.set q ((rd l q + 1) / 2), by omega, by go_num, ?_, ?_, (Hbl.out.setCell (p := ⟨gb, q, none⟩) hb0 _).drew⟩
                · intro t ht
                  rw [rd_set (by rw [Hll.out]; exact hqn), Hl.out t ht]
                  by_cases e : q = t
                  · subst e
                    rw [if_pos rfl, if_pos (by omega), Hhv.out]
                  · rw [if_neg e]
                    by_cases e2 : t < q
                    · rw [if_pos e2, if_pos (by omega)]
                    · rw [if_neg e2, if_neg (by omega)]
                · show World.ownsRow _ _ _ _ _ _ _
                  rw [ints_set]
                  exact own_below (own_store Hor.out q _) (Below.refl _ _).drew
            · obtain rfl : q = j := by omega
              have el : l = halve wt := ext_rd' (by rw [hll, halve_length, H5.out]) (fun t ht => by rw [Hl.out t (by omega), if_pos (by omega)])
              subst el
              go_wp2
              go_roundg g'
              case measure => have := Hg'.out; omega
              case rel => exact ⟨halve wt, Hstep.out, by have := Hless.out; have := H2.out; have := Hg'.out; show _ ≤ _; omega, halve_nonneg H3.out, by rw [halve_length, posTo_halve]; exact H4.out, by rw [halve_length]; exact H5.out, by have := Hless.out; have := H6.out; show _ ≤ _; omega, Hor.out, Hbl.out⟩
        · have hall : (onceM wt).all (fun x => decide (x ≤ (m : Int))) = true := all_of (fun q hq => HF.out.1 (by simp) q (by rw [hol.out, H5.out] at hq; exact hq))
          have hR : R = onceM wt := by
            rw [← H1.out]
            cases g with
            | zero => rfl
            | succ g => unfold lensM; rw [if_pos hall]
          have HR2 := Lib.hid hR
          clear hall hR
          go_wp2
          try rw [Exit.noGoto_ret]
          go_ret
          rw [HR2.out]
          exact ⟨_, rfl, own_mono Ho.out H8.out.size, H8.out.trans (Hb.out.mono H8.out.size)⟩
end Go.Proofs.YtempgkglhgelkaaDoor
/-
  The walks of the document's Right and Codes (inkwellref05).
-/
namespace Go.Proofs.YtempgkglhgelkaaDoor
open Go.RowKit

/-- Code and last length, ahead of symbol s in the round of length k. -/
def CodeInv (xs : List Int) (k s : Nat) (code : Int) (last : Nat) : Prop :=
  (last = 0 ∧ code = 0 ∧ nextCode xs k s = 0) ∨ (0 < last ∧ last ≤ k ∧ 0 ≤ code ∧ (code + 1) * 2 ^ (k - last) = nextCode xs k s)
theorem CodeInv.miss {xs : List Int} {k s last : Nat} {code : Int} (h : CodeInv xs k s code last) (hs : s < xs.length) (hx : rd xs s ≠ k) : CodeInv xs k (s + 1) code last := by
  have e : nextCode xs k (s + 1) = nextCode xs k s := by unfold nextCode; rw [before_miss xs k s hs hx]
  unfold CodeInv at *
  rw [e]
  exact h
theorem CodeInv.hit {xs : List Int} {k s : Nat} (hs : s < xs.length) (hx : rd xs s = k) (hk : 0 < k) (h0 : 0 ≤ nextCode xs k s) : CodeInv xs k (s + 1) (nextCode xs k s) k := by
  have e : nextCode xs k (s + 1) = nextCode xs k s + 1 := by unfold nextCode; rw [before_hit xs k s hs hx]; omega
  refine .inr ⟨hk, Nat.le_refl _, h0, ?_⟩
  rw [e, Nat.sub_self]
  omega
theorem CodeInv.over {xs : List Int} {k last : Nat} {code : Int} (h : CodeInv xs k xs.length code last) (hk : 0 < k) (hk2 : k < 16) : CodeInv xs (k + 1) 0 code last := by
  have e := nextCode_over xs k hk hk2
  rcases h with ⟨h1, h2, h3⟩ | ⟨h1, h2, h3, h4⟩
  · exact .inl ⟨h1, h2, by rw [e, h3]; rfl⟩
  · refine .inr ⟨h1, by omega, h3, ?_⟩
    rw [e, ← h4, show k + 1 - last = (k - last) + 1 from by omega, Int.pow_succ, ← Int.mul_assoc, Int.mul_comm]

theorem elU64r : ElT Tryd.prog 100 24 (.int .u64 0) 1 8 := elU64
set_option maxHeartbeats 2000000 in
set_option maxRecDepth 200000 in
theorem refCodes_calls (A : Option Addr) (n cap : Nat) (xs : List Int) (w : World) (hR : Rd w .i64 A n xs) (hn : n ≤ 1000000) :
    Calls Tryd.prog 57 #[.slice A n cap] w fun e w' => ∃ v, e = .returned v ∧ w'.ownsRow w.heap.size 24 1 v n (ints .u64 (codesOf xs)) ∧ Below w.heap.size w w' := by
  have HR := Lib.hid hR
  have hlen := Lib.hid hR.1
  clear hR
  go_enter Tryd.func57, Tryd.ntmps57
  go_wp2_with (at_make; refine wpList_mk1 (base := w.heap.size) (n := n) _ rfl _ _ rfl elU64 rfl rfl rfl rfl (by omega) (Nat.le_refl _) ?_; intro w4 hown4 hb4 hsz4)
  have Hown4 := Lib.hid hown4
  have Hb4 := Lib.hid hb4
  clear hown4 hb4
  go_loopw [4, 5, 6] (fun x y i wr => ∃ (k last : Nat) (code : Int) (l : List Int), 1 ≤ k ∧ k ≤ 16 ∧ i = .int .i64 k ∧ x = .int .u64 code ∧ y = .int .i64 last ∧ Hid (CodeInv xs k 0 code last) ∧ wr.ownsRow w.heap.size 24 1 (.slice (some ⟨w.heap.size, 0, none⟩) n n) n (ints .u64 l) ∧ Hid (∀ j, j < n → rd l j = if 0 < rd xs j ∧ rd xs j < k then codeAt xs j else 0) ∧ Below w.heap.size w wr) (fun _ _ i _ => 16 - (intOf i).toNat)
  case atStart =>
    refine ⟨1, 0, 0, _, by omega, by omega, rfl, rfl, rfl, .inl ⟨rfl, rfl, nextCode_one xs⟩, Hown4.out, ?_, Hb4.out⟩
    intro j hj
    rw [if_neg (by omega), rd_getElem (by rw [List.length_replicate]; exact hj), List.getElem_replicate]
  case round =>
    obtain ⟨k, last, code, l, hk1, hk2, rfl, rfl, rfl, Hinv, hown, Hl, hbel⟩ := hrel
    have Hown := Lib.hid hown
    have Hbel := Lib.hid hbel
    clear hown hbel
    by_cases hlt : k ≤ 15
    · obtain ⟨wo, hwo⟩ : ∃ wo : World, wo = wr := ⟨_, rfl⟩
      subst hwo
      go_wp2
      go_loopw [4, 5, 7] (fun x y i wr => ∃ (s last : Nat) (code : Int) (l : List Int), s ≤ n ∧ i = .int .i64 s ∧ x = .int .u64 code ∧ y = .int .i64 last ∧ Hid (CodeInv xs k s code last) ∧ wr.ownsRow w.heap.size 24 1 (.slice (some ⟨w.heap.size, 0, none⟩) n n) n (ints .u64 l) ∧ Hid (∀ j, j < n → rd l j = if 0 < rd xs j ∧ (rd xs j < k ∨ (rd xs j = k ∧ j < s)) then codeAt xs j else 0) ∧ Below w.heap.size w wr) (fun _ _ i _ => n - (intOf i).toNat)
      case atStart =>
        refine ⟨0, last, code, l, by omega, rfl, rfl, rfl, Hinv, Hown.out, ?_, Hbel.out⟩
        intro j hj
        rw [Hl.out j hj]
        by_cases g : 0 < rd xs j ∧ rd xs j < k
        · rw [if_pos g, if_pos ⟨g.1, .inl g.2⟩]
        · rw [if_neg g, if_neg (by omega)]
      case round =>
        obtain ⟨s, last, code, l, hs, rfl, rfl, rfl, Hinv, hown, Hl, hbel⟩ := hrel
        have hll : l.length = n := by have := hown.1; simpa [ints] using this
        have Hown := Lib.hid hown
        have Hbel := Lib.hid hbel
        clear hown hbel
        by_cases hlt2 : s < n
        · obtain ⟨b, o, rfl, hcx⟩ := HR.out.2 (by omega)
          have z := kept_cell Hbel.out (hcx s hlt2)
          clear hcx
          cases hx : (rd xs s != (k : Int))
          · have hxk : rd xs s = k := by simpa using hx
            have HX := Lib.hid hxk
            have hv := nextCode_range xs k s (by omega)
            rw [hlen.out] at hv
            have xc := Hown.out.cellAt s (by omega)
            rw [ints_get (by omega)] at xc
            have xf := Hown.out.frozenAt s
            have hnew := Lib.hid (CodeInv.hit (by rw [hlen.out]; exact hlt2) hxk (by omega) hv.1)
            have e1 : codeAt xs s = nextCode xs k s := by
              unfold codeAt
              rw [if_pos (by omega), hxk]
              rfl
            have E1 := Lib.hid e1
            have Hl3 : Hid (∀ j, j < n → rd (l.set s (nextCode xs k s)) j = if 0 < rd xs j ∧ (rd xs j < k ∨ (rd xs j = k ∧ j < s + 1)) then codeAt xs j else 0) := fun j hj => by
              rw [rd_set (by omega)]
              by_cases g2 : s = j
              · subst g2; rw [if_pos rfl, if_pos (by omega), E1.out]
              · rw [if_neg g2, Hl.out j hj]
                by_cases g : 0 < rd xs j ∧ (rd xs j < k ∨ (rd xs j = k ∧ j < s))
                · rw [if_pos g, if_pos (by omega)]
                · rw [if_neg g, if_neg (by omega)]
            rcases Hinv.out with ⟨i1, i2, i3⟩ | ⟨i1, i2, i3, i4⟩
            · subst i1 i2
              rw [i3] at hnew Hl3
              clear hxk e1 hv i3
              go_wp2
              go_roundw
              case rel =>
                exact ⟨s + 1, k, 0, l.set s 0, by omega, by go_num, rfl, rfl, hnew, by rw [ints_set]; exact (Hown.out.stored s _).1, Hl3, Hbel.out.setCell (Nat.le_refl _) _⟩
              case measure => simp [intOf]; omega
            · have hle : code + 1 ≤ (code + 1) * 2 ^ (k - last) := by
                have h1 : (1 : Int) ≤ 2 ^ (k - last) := by
                  have : (1 : Nat) ≤ 2 ^ (k - last) := Nat.one_le_two_pow
                  exact_mod_cast this
                have h2 := Int.mul_le_mul_of_nonneg_left h1 (show 0 ≤ code + 1 by omega)
                rw [Int.mul_one] at h2
                exact h2
              have ev : IntKind.u64.wrap (IntKind.u64.wrap (code + 1) * 2 ^ (k - last)) = nextCode xs k s := by
                rw [IntWalk.u64_in (code + 1) (by rw [i4] at hle; omega), i4]
                exact IntWalk.u64_in _ (by omega)
              have Ev := Lib.hid ev
              clear hxk e1 i4 hle ev
              go_wp2
              rw [Ev.out]
              go_roundw
              case rel =>
                exact ⟨s + 1, k, nextCode xs k s, l.set s (nextCode xs k s), by omega, by go_num, rfl, rfl, hnew, by rw [ints_set]; exact (Hown.out.stored s _).1, Hl3, Hbel.out.setCell (Nat.le_refl _) _⟩
              case measure => simp [intOf]; omega
          · have hxk : rd xs s ≠ k := by simpa using hx
            have hnew := Lib.hid (CodeInv.miss Hinv.out (by rw [hlen.out]; exact hlt2) hxk)
            have Hx := Lib.hid hxk
            clear hxk
            go_wp2
            go_roundw
            case rel =>
              refine ⟨s + 1, last, code, l, by omega, by go_num, rfl, rfl, hnew, Hown.out, ?_, Hbel.out⟩
              intro j hj
              rw [Hl.out j hj]
              by_cases g2 : s = j
              · subst g2
                have := Hx.out
                by_cases g : 0 < rd xs s ∧ (rd xs s < k ∨ (rd xs s = k ∧ s < s))
                · rw [if_pos g, if_pos (by omega)]
                · rw [if_neg g, if_neg (by omega)]
              · by_cases g : 0 < rd xs j ∧ (rd xs j < k ∨ (rd xs j = k ∧ j < s))
                · rw [if_pos g, if_pos (by omega)]
                · rw [if_neg g, if_neg (by omega)]
            case measure => simp [intOf]; omega
        · have hsn : s = n := by omega
          have hinv := Hinv.out
          rw [hsn, ← hlen.out] at hinv
          have hover := Lib.hid (CodeInv.over hinv (by omega) (by omega))
          clear hinv
          go_wp2
          go_roundw
          case rel =>
            refine ⟨k + 1, last, code, l, by omega, by omega, by go_num, rfl, rfl, hover, Hown.out, ?_, Hbel.out⟩
            intro j hj
            rw [Hl.out j hj]
            by_cases g : 0 < rd xs j ∧ (rd xs j < k ∨ (rd xs j = k ∧ j < s))
            · rw [if_pos g, if_pos (by omega)]
            · rw [if_neg g, if_neg (by omega)]
          case measure => simp [intOf]; omega
    · have hk16 : k = 16 := by omega
      have hll : l.length = n := by have := Hown.out.1; simpa [ints] using this
      have e : l = codesOf xs := ext_rd (by rw [hll, codesOf_length, hlen.out]) (fun j hj => by
        rw [Hl.out j (by omega), rd_codesOf _ _ (by rw [hlen.out]; omega)]
        by_cases g : 0 < rd xs j ∧ rd xs j < k
        · rw [if_pos g]
        · rw [if_neg g]
          unfold codeAt
          rw [if_neg (by omega)])
      subst e
      clear hk16
      go_wp2
      go_ret
      exact ⟨_, rfl, Hown.out, Hbel.out⟩
end Go.Proofs.YtempgkglhgelkaaDoor
/-
  The walks of the reference's High, Full, Bytes.
-/
namespace Go.Proofs.YtempgkglhgelkaaDoor
open Go.RowKit

theorem rd_revBit {x n k : Nat} (h : k < n) : rd (lowOf x n) k = ((x / 2 ^ k % 2 : Nat) : Int) := rd_lowOf h
set_option maxHeartbeats 1000000 in
set_option maxRecDepth 100000 in
theorem High_calls (x n : Nat) (w : World) (hx : x < 18446744073709551616) (hn : n ≤ 64) :
    Calls Tryd.prog 58 #[.int .u64 x, .int .i64 n] w fun e w' => ∃ v, e = .returned v ∧ w'.ownsRow w.heap.size 5 1 v n (ints .u8 (hiOf x n)) ∧ Below w.heap.size w w' := by
  go_enter Tryd.func58, Tryd.ntmps58
  go_wp2_with fail
  refine (Low_calls x n _ hx hn).mono ?_
  rintro e w1 ⟨v1, rfl, ho1, hb1⟩
  obtain ⟨A1, c1, rfl, _, hr1⟩ := own_rd ho1
  have Hr1 := Lib.hid hr1
  have Hb1 := Lib.hid hb1
  clear ho1 hr1 hb1
  go_wp2
  go_loopw [6, 7] (fun v i wr => ∃ (k : Nat) (cur : List Int), k ≤ n ∧ i = .int .i64 ((k : Int) - 1) ∧ cur.length = n - k ∧ Hid (cur ++ hiOf x k = hiOf x n) ∧ Hid (wr.ownsRow w1.heap.size 5 1 v (n - k) (ints .u8 cur)) ∧ Hid (Below w1.heap.size w1 wr)) (fun _ i _ => (intOf i + 1).toNat)
  case atStart => exact ⟨n, [], by omega, by go_num, by simp, rfl, by rw [Nat.sub_self]; exact World.ownsRow_nil _ _ _ _, Below.refl _ _⟩
  case round =>
    obtain ⟨k, cur, hk, rfl, hcl, HC, Ho, Hb⟩ := hrel
    by_cases hlt : 0 < k
    · obtain ⟨j, rfl⟩ : ∃ j, k = j + 1 := ⟨k - 1, by omega⟩
      obtain ⟨b, o, rfl, hcx⟩ := (Hr1.out.below Hb.out).2 (by omega)
      have z := hcx j (by omega)
      rw [rd_revBit (by omega)] at z
      have hc := HC.out
      rw [hiOf_succ] at hc
      have hbit : x / 2 ^ j % 2 ≤ 1 := by omega
      obtain ⟨bt, hbt⟩ : ∃ bt, bt = x / 2 ^ j % 2 := ⟨_, rfl⟩
      rw [← hbt] at z hbit hc
      have HC2 := Lib.hid hc
      have hsz := Hb.out.size
      obtain ⟨A2, c2, rfl⟩ := own_slice Ho.out
      have s1 : (((j + 1 : Nat) : Int) - 1).toNat = j := by omega
      have s2 : (((j + 1 : Nat) : Int) - 1) = (j : Int) := by omega
      clear hcx hbt hc
      rw [s2]
      go_wp2_with (at_builtin; refine wpList_app3 rfl _ _ rfl elB Ho.out rfl rfl rfl rfl rfl (by omega) hsz ?_; intro g7 cap7 w7 hown7 hfr7 hat7 hlt7)
      go_roundw
      case rel =>
        refine ⟨j, cur ++ [(bt : Int)], by omega, by go_num, by simp; omega, by rw [List.append_assoc]; exact HC2.out, ?_, Hb.out.trans (hfr7.below hsz (own_far Ho.out (Nat.le_refl _)))⟩
        rw [show n - j = n - (j + 1) + 1 from by omega, ints_append]
        exact hown7
      case measure => simp [intOf]
    · obtain rfl : k = 0 := by omega
      have hc := HC.out
      rw [show hiOf x 0 = [] from rfl, List.append_nil] at hc
      rw [hc, Nat.sub_zero] at Ho
      have hw := Lib.hid (below_seq Hb1.out (Nat.le_refl _) Hb.out)
      have ho := Lib.hid (own_mono Ho.out Hb1.out.size)
      clear hc
      go_wp2
      go_ret
      exact ⟨_, rfl, ho.out, hw.out⟩
def lenV : Value → Nat
  | .slice _ n _ => n
  | _ => 0
/-- Bits, filled up to whole bytes. -/
def fullOf (L : List Int) : List Int := bitsOf (packB L) 0 (8 * ((L.length + 7) / 8))
theorem fullOf_front {L : List Int} (h : Bit01 L) : fullOf L = L ++ List.replicate (8 * ((L.length + 7) / 8) - L.length) 0 := by
  apply ext_rd (by unfold fullOf; rw [bitsOf_length, List.length_append, List.length_replicate]; omega)
  intro j hj
  unfold fullOf at hj ⊢
  rw [bitsOf_length] at hj
  rw [rd_bitsOf hj, Nat.zero_add, bitAt_packB h hj]
  have h1 := h.rd j
  rcases Nat.lt_or_ge j L.length with g | g
  · rw [rd_appL g]
    omega
  · rw [rd_out g]
    have e : j = L.length + (j - L.length) := by omega
    rw [e, rd_appR, rd_zeros]
    rfl
set_option maxHeartbeats 1000000 in
set_option maxRecDepth 100000 in
theorem Full_calls (A : Option Addr) (m c : Nat) (L : List Int) (w : World) (hR : Rd w .u8 A m L) (hA : A = none → m = 0 ∧ c = 0) (hL : Bit01 L) (hm : m ≤ 10000000) :
    Calls Tryd.prog 59 #[.slice A m c] w fun e w' => ∃ v, e = .returned v ∧ w'.ownsRow w.heap.size 5 1 v (8 * ((m + 7) / 8)) (ints .u8 (fullOf L)) ∧ Below w.heap.size w w' := by
  have HR := Lib.hid hR
  have hl := Lib.hid hR.1
  have HA := Lib.hid hA
  clear hR hA
  go_enter Tryd.func59, Tryd.ntmps59
  go_wp2_with (at_builtin; refine wpList_appRd rfl _ _ rfl elB (ys := []) (own_empty w _) rfl rfl (HR.out.alloc _) HA.out (by omega) (by simp) ?_; intro v' w' hown hg; rw [Nat.zero_add, List.nil_append] at hown; have Hown := Lib.hid hown; have Hg := Lib.hid hg; clear hown hg)
  have Hb := Lib.hid (((Below.refl _ _).alloc (Nat.le_refl _) _).grown Hg.out (by simp) (fun k hk => by simp [Value.ownBlock] at hk; omega) : Below w.heap.size w w')
  clear Hg
  go_loopw [3] (fun v wr => ∃ k : Nat, m + k ≤ 8 * ((m + 7) / 8) ∧ Hid (wr.ownsRow w.heap.size 5 1 v (m + k) (ints .u8 (L ++ List.replicate k 0))) ∧ Hid (Below w.heap.size w wr)) (fun v _ => 8 * ((m + 7) / 8) - lenV v)
  case atStart => exact ⟨0, by omega, by rw [List.replicate_zero, List.append_nil]; exact Hown.out, Hb.out⟩
  case round =>
    obtain ⟨k, hk, Ho, Hbl⟩ := hrel
    have hsz := Hbl.out.size
    obtain ⟨A2, c2, rfl⟩ := own_slice Ho.out
    obtain ⟨q, hq⟩ : ∃ q, q = m + k := ⟨_, rfl⟩
    have ho := Ho.out
    rw [← hq] at ho hk ⊢
    have Ho2 := Lib.hid ho
    have Hq := Lib.hid hq
    have hq2 : q ≤ 10000010 := by omega
    clear ho hq
    by_cases h8 : q % 8 = 0
    · have he : q = 8 * ((m + 7) / 8) := by have := Hq.out; omega
      have hfu := fullOf_front hL
      rw [hl.out] at hfu
      have e2 : fullOf L = L ++ List.replicate k 0 := by rw [hfu, ← he, Hq.out, Nat.add_sub_cancel_left]
      have E2 := Lib.hid e2
      have He := Lib.hid he
      have d0 : ((q : Int) % 8 == 0) = true := by rw [beq_iff_eq]; omega
      have d1 : (q : Int) % 8 = 0 := by omega
      clear hfu e2 he
      go_wp2
      go_ret
      exact ⟨_, rfl, by rw [← He.out, E2.out]; exact Ho2.out, Hbl.out⟩
    · have hlt : q + 1 ≤ 8 * ((m + 7) / 8) := by have := Hq.out; omega
      have d0 : ((q : Int) % 8 == 0) = false := by rw [beq_eq_false_iff_ne]; omega
      have d1 : ¬ (q : Int) % 8 = 0 := by omega
      go_wp2_with (at_builtin; refine wpList_app3 rfl _ _ rfl elB Ho2.out rfl rfl rfl rfl rfl (by omega) hsz ?_; intro g7 cap7 w7 hown7 hfr7 hat7 hlt7)
      go_roundw
      case rel => exact ⟨k + 1, by have := Hq.out; omega, by rw [List.replicate_succ', ← List.append_assoc, ints_append, ← Nat.add_assoc, ← Hq.out]; exact hown7, Hbl.out.trans (hfr7.below hsz (own_far Ho2.out (Nat.le_refl _)))⟩
      case measure => simp [lenV]; omega
set_option maxHeartbeats 1000000 in
set_option maxRecDepth 100000 in
theorem Bytes_calls (A : Option Addr) (m c : Nat) (L : List Int) (w : World) (hR : Rd w .u8 A m L) (hA : A = none → m = 0 ∧ c = 0) (hL : Bit01 L) (hm : m ≤ 10000000) :
    Calls Tryd.prog 37 #[.slice A m c] w fun e w' => ∃ v, e = .returned v ∧ w'.ownsRow w.heap.size 5 1 v ((m + 7) / 8) (ints .u8 (packB L)) ∧ Below w.heap.size w w' := by
  have hl := Lib.hid hR.1
  go_enter Tryd.func37, Tryd.ntmps37
  go_wp2_with fail
  refine (Full_calls A m c L _ hR hA hL hm).mono ?_
  rintro e w1 ⟨v1, rfl, ho1, hb1⟩
  obtain ⟨N, hN⟩ : ∃ N, N = (m + 7) / 8 := ⟨_, rfl⟩
  rw [← hN] at ho1
  have HN := Lib.hid hN
  have hlN : (L.length + 7) / 8 = N := by rw [hl.out, hN]
  obtain ⟨A1, c1, rfl, hc1, hr1⟩ := own_rd ho1
  unfold fullOf at hr1
  rw [hlN] at hr1
  have HlN := Lib.hid hlN
  have Hr1 := Lib.hid hr1
  have Hb1 := Lib.hid hb1
  have hN2 : N ≤ 1500000 := by omega
  clear ho1 hr1 hb1 hN hlN hR hA
  go_wp2
  go_loopw [4, 5] (fun v i wr => ∃ k : Nat, k ≤ N ∧ i = .int .i64 ((8 * k : Nat) : Int) ∧ Hid (wr.ownsRow w1.heap.size 5 1 v k (ints .u8 ((packB L).take k))) ∧ Hid (Below w1.heap.size w1 wr)) (fun _ i _ => 8 * N - (intOf i).toNat)
  case atStart => exact ⟨0, by omega, rfl, by rw [List.take_zero]; exact World.ownsRow_nil _ _ _ _, Below.refl _ _⟩
  case round =>
    obtain ⟨k, hk, rfl, Ho, Hb⟩ := hrel
    have hsz := Hb.out.size
    obtain ⟨A2, c2, rfl⟩ := own_slice Ho.out
    by_cases hlt : k < N
    · obtain ⟨b, o, rfl, _⟩ := Hr1.out.2 (by omega)
      have hp := bits_part (Hr1.out.below Hb.out) (8 * k) 8 (by omega)
      rw [Nat.zero_add] at hp
      have hnum := numAt_byte hL (j := k) (by rw [HlN.out]; exact hlt)
      have hpl := packAt_lt hL k
      have hrd := rd_packB (L := L) (j := k) (by rw [HlN.out]; exact hlt)
      have htk : (packB L).take (k + 1) = (packB L).take k ++ [((packAt L k : Nat) : Int)] := by
        rw [List.take_succ_eq_append_getElem (by rw [packB_length, HlN.out]; exact hlt), ← rd_getElem, hrd]
      obtain ⟨X, hX⟩ : ∃ X, X = packAt L k := ⟨_, rfl⟩
      rw [← hX] at hnum hpl htk
      have Htk := Lib.hid htk
      have Hp := Lib.hid hp
      have Hnum := Lib.hid hnum
      obtain ⟨q, hq⟩ : ∃ q, q = 8 * k := ⟨_, rfl⟩
      rw [← hq]
      have Hq := Lib.hid hq
      have hq2 : q + 8 ≤ 8 * N := by omega
      have s1 : ((q : Int) + 8).toNat = q + 8 := by omega
      have sX : IntKind.u8.wrap (X : Int) = X := IntWalk.u8_in _ (by omega)
      clear htk hp hnum hX hrd hq
      go_wp2_with fail
      refine (Num_calls (some ⟨b, o + q, none⟩) 8 _ q (packB L) _ (by rw [Hq.out]; exact Hp.out) (by omega)).mono ?_
      rintro e w2 ⟨rfl, rfl⟩
      rw [Hq.out, Hnum.out]
      go_wp2_with (at_builtin; refine wpList_app3 rfl _ _ rfl elB Ho.out rfl rfl rfl rfl rfl (by omega) hsz ?_; intro g7 cap7 w7 hown7 hfr7 hat7 hlt7)
      have h77 : q = 8 * k := Hq.out
      have h78 : 8 * (k + 1) = q + 8 := by omega
      clear h77
      have H78 := Lib.hid h78
      clear h78
      go_roundw
      case rel => exact ⟨k + 1, by omega, by rw [H78.out]; have h77 : q = 8 * k := Hq.out; go_num, by rw [Htk.out, ints_append]; exact hown7, Hb.out.trans (hfr7.below hsz (own_far Ho.out (Nat.le_refl _)))⟩
      case measure =>
        have h77 : q = 8 * k := Hq.out
        simp [intOf]
        omega
    · obtain rfl : k = N := by omega
      have ht : (packB L).take k = packB L := List.take_of_length_le (by rw [packB_length, HlN.out]; exact Nat.le_refl _)
      rw [ht] at Ho
      have hw := Lib.hid (below_seq Hb1.out (Nat.le_refl _) Hb.out)
      have ho := Lib.hid (own_mono Ho.out Hb1.out.size)
      clear ht
      go_wp2
      go_ret
      exact ⟨_, rfl, by rw [← HN.out]; exact ho.out, hw.out⟩
end Go.Proofs.YtempgkglhgelkaaDoor
/-
  An append of a read slice, as one operation of a region that draws its order.
-/
namespace Go.Proofs.YtempgkglhgelkaaDoor
open Go.RowKit

theorem step_appRd {P : Program} {w : World} {ops : Array Oper} {o : Oper} {a : Act} {K : Act → World → Prop} {Q : Exit → Act → World → Prop} {E : Prop} (hgd : o.guard = none) (s x : Operand) {t : TypeId}
    (ho : o.op = .call { callee := .builtin .append, args := #[s, x], argTypes := #[t, t] })
    {base : Nat} {e : TypeId} {k : IntKind} {bytes : Nat} (El : ElT P t e (.int k 0) 1 bytes) {v : Value} {n : Nat} {ys : List Int} (hown : w.ownsRow base e 1 v n (ints k ys)) (hs : a.eval s = v)
    {A : Option Addr} {m c : Nat} {zs : List Int} (hx : a.eval x = .slice A m c) (hR : Rd w k A m zs) (hA : A = none → m = 0 ∧ c = 0) (hbytes : (n + m) * bytes ≤ 140737488355328) (hbase : base ≤ w.heap.size)
    (h : ∀ v' w', w'.ownsRow base e 1 v' (n + m) (ints k (ys ++ zs)) → w.grownBy w' v.ownBlock → K (a.put o.dst v') w') : if Region.wanted o (yielded ops a.tmps) = true then Oper.wp P o a w K Q else E := by
  have hw : Region.wanted o (yielded ops a.tmps) = true := by simp [Region.wanted, hgd]
  rw [if_pos hw]
  obtain ⟨i0, hi, hz0, hz1, hz2⟩ := info_parts El.info
  have hn : n + m ≤ maxLen := by
    have := Nat.mul_le_mul_left (n + m) El.bpos
    unfold maxLen
    omega
  have hl := hR.1
  cases A with
  | none =>
    obtain ⟨rfl, rfl⟩ := hA rfl
    have hz : zs = [] := List.length_eq_zero_iff.1 hl
    subst hz
    have hrun := run_append_owned_none (P := P) (w := w) base t o.type e i0 1 El.und hi v n _ hown
    have h9 := h v w (by simpa using hown) ⟨rfl, rfl, rfl, Nat.le_refl _, fun _ _ _ => rfl⟩
    unfold Oper.wp
    simp [execOp, ho, resolve, invoke, builtin, hs, hx, hrun, Result.andThen]
    exact h9
  | some ad =>
    refine wp_append_own _ s x t ho base e i0 (.int k 0) 1 bytes El.und hi hz0 hz1 hz2 El.zs El.pos v n _ hs hown ad m c (ints k zs) hx (by rw [ints_length]; omega) ?_ (fun u hu => ?_) hn hbytes hbase ?_
    · intro j u hu
      have hj : j < zs.length := by
        have := (List.getElem?_eq_some_iff.1 hu).1
        rwa [ints_length] at this
      obtain ⟨b, o', e', hc⟩ := hR.2 (by omega)
      cases e'
      rw [ints_get hj] at hu
      cases hu
      rw [addr_add]
      exact hc j (by omega)
    · obtain ⟨q, _, rfl⟩ := List.mem_map.1 hu
      rfl
    · intro v' w' h1 h2 _
      exact h v' w' (by rw [ints_append]; exact h1) h2
end Go.Proofs.YtempgkglhgelkaaDoor
