/-
  The walk of Lengths.
-/
import Derived.Test.YtempgkglhgelkaaOnceW
import Derived.Deep.LoopGhost
namespace Go.Proofs.Ytempgkglhgelkaa
open Go.RowKit

theorem ext_rd' {a b : List Int} (hl : a.length = b.length) (h : ∀ j, j < a.length → rd a j = rd b j) : a = b := by
  apply List.ext_getElem hl
  intro i h1 h2
  rw [← rd_getElem h1, ← rd_getElem h2]
  exact h i h1
theorem not_all_of {l : List Int} {m : Nat} {j : Nat} (hj : j < l.length) (h : (m : Int) < rd l j) : ¬ l.all (fun x => decide (x ≤ (m : Int))) = true := by
  intro hc
  have := List.all_eq_true.1 hc l[j] (List.getElem_mem _)
  rw [← rd_getElem hj] at this
  simp at this
  omega
theorem all_of {l : List Int} {m : Nat} (h : ∀ j, j < l.length → rd l j ≤ m) : l.all (fun x => decide (x ≤ (m : Int))) = true := by
  rw [List.all_eq_true]
  intro x hx
  obtain ⟨j, hj, rfl⟩ := List.getElem_of_mem hx
  have := h j hj
  rw [rd_getElem hj] at this
  simpa using this
theorem nonneg_rd {l : List Int} (h : ∀ x ∈ l, 0 ≤ x) (hs : l.sum ≤ 4611686018427387904) (j : Nat) (hj : j < l.length) : 0 ≤ rd l j ∧ rd l j ≤ 4611686018427387904 := by
  rw [rd_getElem hj]
  refine ⟨h _ (List.getElem_mem _), ?_⟩
  have key : ∀ (l : List Int), (∀ x ∈ l, 0 ≤ x) → ∀ x ∈ l, x ≤ l.sum := by
    intro l
    induction l with
    | nil => intro _ x hx; cases hx
    | cons y l ih =>
      intro h x hx
      have h1 := sum_nonneg' l (fun z hz => h z (by simp [hz]))
      have h2 := h y (by simp)
      simp only [List.sum_cons]
      rcases List.mem_cons.1 hx with rfl | hx
      · omega
      · have := ih (fun z hz => h z (by simp [hz])) x hx
        omega
  have := key l h _ (List.getElem_mem hj)
  omega
set_option maxHeartbeats 4000000 in
set_option maxRecDepth 200000 in
theorem Lengths_calls (m : Nat) (A : Option Addr) (n cap : Nat) (ws : List Int) (w : World) (hm : 1 ≤ m) (hR : Rd w .i64 A n ws) (hA : A = none → n = 0 ∧ cap = 0) (hn : n ≤ 100000) (hw : ∀ x ∈ ws, 0 ≤ x) (hsum : ws.sum ≤ 4611686018427387904) (hp : (posTo ws ws.length).length ≤ 2 ^ m) :
    Calls Try.prog 19 #[.int .i64 m, .slice A n cap] w fun e w' => ∃ v, e = .returned v ∧ w'.ownsRow w.heap.size 3 1 v n (ints .i64 (lensOf m ws)) ∧ Below w.heap.size w w' := by
  have HR := Lib.hid hR
  have hlen := Lib.hid hR.1
  have Hw := Lib.hid hw
  have Hp := Lib.hid hp
  obtain ⟨R, hRR⟩ : ∃ R, lensOf m ws = R := ⟨_, rfl⟩
  rw [hRR]
  have HRR := Lib.hid hRR
  clear hR hw hp hRR
  go_enter Try.func19, Try.ntmps19
  go_wp2
  go_step3
  go_wp2_with (at_builtin; refine wpList_appRd rfl _ _ rfl elIntN (ys := []) (World.ownsRow_lit w #[] 0 (Nat.le_refl _) (by decide) rfl) rfl rfl (HR.out.alloc _) hA (by omega) (by simp) ?_; intro v' w' hown hg; rw [Nat.zero_add, List.nil_append] at hown; have Hown := Lib.hid hown; have Hg := Lib.hid hg; clear hown hg)
  have hsz : w.heap.size ≤ w'.heap.size := by have := Hg.out.size; simp at this; omega
  have hb1 : Below w.heap.size w w' := ((Below.refl _ _).alloc (Nat.le_refl _) _).grown Hg.out (by simp) (fun k hk => by simp [Value.ownBlock] at hk; omega)
  have Hb1 := Lib.hid hb1
  obtain ⟨B, c, rfl⟩ := own_slice Hown.out
  clear hb1 Hg
  go_step3
  go_wp2
  go_loopg [] ws.sum.toNat (fun g wr => ∃ wt : List Int, Hid (lensM g m wt = R) ∧ Hid (wt.sum ≤ g) ∧ Hid (∀ x ∈ wt, 0 ≤ x) ∧ Hid ((posTo wt wt.length).length ≤ 2 ^ m) ∧ Hid (wt.length = n) ∧ Hid (wt.sum ≤ 4611686018427387904) ∧ Hid (wr.ownsRow w.heap.size 3 1 (.slice B n c) n (ints .i64 wt)) ∧ Hid (Below w.heap.size w wr))
  case atStart => exact ⟨ws, HRR.out, by have := sum_nonneg' ws Hw.out; show _ ≤ _; omega, Hw.out, Hp.out, hlen.out, hsum, Hown.out, Hb1.out⟩
  case round =>
    obtain ⟨wt, H1, H2, H3, H4, H5, H6, H7, H8⟩ := hrel
    obtain ⟨g, hg⟩ : ∃ g, g = gk := ⟨gk, rfl⟩
    subst hg
    have hol := Lib.hid (onceM_length wt)
    obtain ⟨B', c', e1, hc', hrd⟩ := own_rd H7.out
    cases e1
    have Hrd := Lib.hid hrd
    clear hrd
    go_wp2_with fail
    refine (once_calls B n c wt _ Hrd.out hn H3.out H6.out).mono ?_
    rintro e w1 ⟨v, rfl, ho, hb⟩
    obtain ⟨D, d, rfl, hd, hrdo⟩ := own_rd ho
    have Ho := Lib.hid ho
    have Hb := Lib.hid hb
    have Hrdo := Lib.hid hrdo
    clear ho hb hrdo
    go_wp2
    go_loopg [18] n (fun g2 i wy => ∃ j : Nat, j + g2 = n ∧ i = .int .i64 j ∧ Hid (∀ q, q < j → rd (onceM wt) q ≤ m) ∧ w1 = wy)
    case atStart => exact ⟨0, by omega, rfl, fun q hq => by omega, rfl⟩
    case round =>
      obtain ⟨j, hj, rfl, Hq, rfl⟩ := hrel
      by_cases hlt : j < n
      · obtain ⟨b, o, rfl, hcx⟩ := Hrdo.out.2 (by omega)
        have z := hcx j hlt
        clear hcx
        rcases Int.lt_or_le (m : Int) (rd (onceM wt) j) with hx | hx
        · have hno : ¬ (onceM wt).all (fun x => decide (x ≤ (m : Int))) = true := not_all_of (by rw [hol.out, H5.out]; exact hlt) hx
          have hless := halve_less H3.out hm H4.out hno
          have hh0 := (sum_halve wt H3.out).1
          obtain ⟨g', hg'⟩ : ∃ g', g = g' + 1 := ⟨g - 1, by have := H2.out; omega⟩
          have Hstep : Hid (lensM g' m (halve wt) = R) := by
            show lensM g' m (halve wt) = R
            have h9 := H1.out
            rw [hg'] at h9
            unfold lensM at h9
            rw [if_neg hno] at h9
            exact h9
          have Hless := Lib.hid hless
          have Hno := Lib.hid hno
          have Hg' := Lib.hid hg'
          have hrow : w1.ownsRow w.heap.size 3 1 (.slice B n c) n (ints .i64 wt) := own_below H7.out Hb.out
          have Hrow := Lib.hid hrow
          have H9 := Lib.hid (H8.out.trans (Hb.out.mono H8.out.size))
          clear hless hno hg' hh0 hrow
          go_wp2
          go_loopg [27] n (fun g2 i wy => ∃ (q : Nat) (l : List Int), q + g2 = n ∧ i = .int .i64 q ∧ Hid (∀ t, t < n → rd l t = if t < q then rd (halve wt) t else rd wt t) ∧ Hid (wy.ownsRow w.heap.size 3 1 (.slice B n c) n (ints .i64 l)) ∧ Hid (Below w.heap.size w wy))
          case atStart => exact ⟨0, wt, by omega, rfl, fun t ht => by rw [if_neg (by omega)], Hrow.out, H9.out⟩
          case round =>
            obtain ⟨q, l, hq, rfl, Hl, Hor, Hbl⟩ := hrel
            have hll : l.length = n := by have := Hor.out.1; rw [ints_length] at this; omega
            by_cases hqn : q < n
            · obtain ⟨gb, cb, e1, hb0, hb1, hcb, hcell, hfz⟩ := own_form Hor.out (by omega)
              cases e1
              have z2 := hcell q _ (ints_get (by omega))
              have zf := hfz q
              have hv : rd l q = rd wt q := by rw [Hl.out q hqn, if_neg (by omega)]
              have hrange := nonneg_rd H3.out H6.out q (by rw [H5.out]; exact hqn)
              rw [← hv] at hrange
              have hhv : rd (halve wt) q = (rd l q + 1) / 2 := by rw [rd_halve, hv]
              have Hhv := Lib.hid hhv
              have Hll := Lib.hid hll
              clear hcell hfz hv hhv hll
              go_wp2
              go_roundg (gk - 1)
              case measure => omega
              case rel =>
                refine ⟨q + 1, l.set q ((rd l q + 1) / 2), by omega, by go_num, ?_, ?_, Hbl.out.setCell (p := ⟨gb, q, none⟩) hb0 _⟩
                · intro t ht
                  rw [rd_set (by rw [Hll.out]; exact hqn), Hl.out t ht]
                  by_cases e : q = t
                  · subst e
                    rw [if_pos rfl, if_pos (by omega), Hhv.out]
                  · rw [if_neg e]
                    by_cases e2 : t < q
                    · rw [if_pos e2, if_pos (by omega)]
                    · rw [if_neg e2, if_neg (by omega)]
                · show World.ownsRow _ _ _ _ _ _ _
                  rw [ints_set]
                  exact own_store Hor.out q _
            · obtain rfl : q = n := by omega
              have el : l = halve wt := ext_rd' (by rw [hll, halve_length, H5.out]) (fun t ht => by rw [Hl.out t (by omega), if_pos (by omega)])
              subst el
              go_wp2
              go_roundg g'
              case measure => have := Hg'.out; omega
              case rel => exact ⟨halve wt, Hstep.out, by have := Hless.out; have := H2.out; have := Hg'.out; show _ ≤ _; omega, halve_nonneg H3.out, by rw [halve_length, posTo_halve]; exact H4.out, by rw [halve_length]; exact H5.out, by have := Hless.out; have := H6.out; show _ ≤ _; omega, Hor.out, Hbl.out⟩
        · go_wp2
          go_roundg (gk - 1)
          case measure => omega
          case rel =>
            refine ⟨j + 1, by omega, by go_num, ?_, rfl⟩
            intro q hq
            by_cases e : q < j
            · exact Hq.out q e
            · rw [show q = j from by omega]; exact hx
      · obtain rfl : j = n := by omega
        have hall : (onceM wt).all (fun x => decide (x ≤ (m : Int))) = true := all_of (fun q hq => Hq.out q (by rw [hol.out, H5.out] at hq; exact hq))
        have hR : R = onceM wt := by
          rw [← H1.out]
          cases g with
          | zero => rfl
          | succ g => unfold lensM; rw [if_pos hall]
        have HR2 := Lib.hid hR
        clear hall hR
        go_wp2
        try rw [Exit.noGoto_ret]
        go_ret
        rw [HR2.out]
        exact ⟨_, rfl, own_mono Ho.out H8.out.size, H8.out.trans (Hb.out.mono H8.out.size)⟩
end Go.Proofs.Ytempgkglhgelkaa
