/-
  Texts joined into one file: List, Ord, LaidO, GetQ, Get, PackP.
-/
import Derived.Test.YtendohnkhbgfbaaDoorJBytK3
import Derived.Test.YtendohnkhbgfbaaDoorJBytK4
import Derived.Deep.LoopGhost
import Derived.Test.YtendohnkhbgfbaaDoorJBytK1
import Derived.Laws.Slices
import Derived.Test.YtendohnkhbgfbaaDoorRows
import Derived.ProofKit
import Derived.LaidMore
import Derived.OpenShut
import Derived.MakeChecks
/-
  The walks of again and list (package codes).
-/
namespace Go.Proofs.YtendohnkhbgfbaaDoor
open Go.RowKit

set_option maxHeartbeats 1000000 in
theorem again_calls (s : Nat) (w : World) (h : 16 ≤ s) (h2 : s ≤ 18) :
    Calls Tryd.prog 126 #[.int .i64 s] w fun e w' => e = .returned (.tuple #[.int .i64 (sizeS s), .int .i64 (leastS s)]) ∧ w = w' := by
  have hc : s = 16 ∨ s = 17 ∨ s = 18 := by omega
  rcases hc with rfl | rfl | rfl
  · go_enter Tryd.func126, Tryd.ntmps126
    go_wp2
    refine bodyPost_ret (v := .tuple #[.int .i64 2, .int .i64 3]) (by simp [results, Tryd.results126, go_sem]) rfl ⟨rfl, rfl⟩
  · go_enter Tryd.func126, Tryd.ntmps126
    go_wp2
    refine bodyPost_ret (v := .tuple #[.int .i64 3, .int .i64 3]) (by simp [results, Tryd.results126, go_sem]) rfl ⟨rfl, rfl⟩
  · go_enter Tryd.func126, Tryd.ntmps126
    go_wp2
    refine bodyPost_ret (v := .tuple #[.int .i64 7, .int .i64 11]) (by simp [results, Tryd.results126, go_sem]) rfl ⟨rfl, rfl⟩
set_option maxHeartbeats 4000000 in
set_option maxRecDepth 100000 in
theorem list_calls (h r base : Nat) (A : Option Addr) (len cap p n : Nat) (xs bs : List Int) (w : World) (hC : Coder w base h xs) (hxs : xs.length ≤ 19) (hR : RdrAt w r A len cap p) (hB : Rd w .u8 A len bs) (hb : ∀ j, j < len → 0 ≤ rd bs j ∧ rd bs j ≤ 255) (hne : ∀ b o, A = some ⟨b, o, none⟩ → b ≠ r) (hlen : len ≤ 1000000) (hp : p ≤ 8 * len) (hhr : h ≠ r) (hn : n ≤ 1000) :
    Calls Tryd.prog 107 #[.pointer (some ⟨r, 0, none⟩), .pointer (some ⟨h, 0, none⟩), .int .i64 n] w fun e w' =>
      ((∃ l q v, listS xs bs (8 * len) n (n + 1) p [] = some (l, q) ∧ e = .returned (.tuple #[v, .bool true]) ∧ w'.ownsRow w.heap.size 3 1 v n (ints .i64 l) ∧ RdrAt w' r A len cap q) ∨
       (listS xs bs (8 * len) n (n + 1) p [] = none ∧ e = .returned (.tuple #[.slice none 0 0, .bool false]) ∧ ∃ q, q ≤ 8 * len ∧ RdrAt w' r A len cap q)) ∧ w.grownBy w' (some r) := by
  have HC := Lib.hid hC
  have HR := Lib.hid hR
  have HB := Lib.hid hB
  have Hb := Lib.hid hb
  have hrl := hR.lt
  obtain ⟨R, hRR⟩ : ∃ R, listS xs bs (8 * len) n (n + 1) p [] = R := ⟨_, rfl⟩
  have HRl : Hid (∀ l q, R = some (l, q) → l.length = n) := fun l q e => (listS_len (out := []) (by simp) hp (hRR.trans e)).1
  rw [hRR]
  have HRR := Lib.hid hRR
  clear hC hR hB hb hRR
  go_enter Tryd.func107, Tryd.ntmps107
  go_wp2
  go_loopg [8] (n + 1) (fun g v wr => ∃ (out : List Int) (q : Nat), Hid (listS xs bs (8 * len) n g q out = R) ∧ out.length ≤ n ∧ n < out.length + g ∧ q ≤ 8 * len ∧ Hid (wr.ownsRow w.heap.size 3 1 v out.length (ints .i64 out)) ∧ Hid (RdrAt wr r A len cap q) ∧ Hid (w.grownBy wr (some r)))
  case atStart => exact ⟨[], p, HRR.out, by simp, by simp, hp, World.ownsRow_nil _ _ _ _, HR.out, grown_refl _ _⟩
  case round =>
    obtain ⟨out, q, HL, hol, hg, hq, Hown, HRd, Hg⟩ := hrel
    obtain ⟨g, hg'⟩ : ∃ g, gk = g + 1 := ⟨gk - 1, by omega⟩
    rw [hg'] at HL
    have hsz := Hg.out.size
    obtain ⟨A1, c1, rfl⟩ := own_slice Hown.out
    by_cases hlt : out.length < n
    · have hn0 : ¬ n ≤ out.length := by omega
      go_wp2_with fail
      refine (Next_hit h r base A len cap q xs bs _ (HC.out.grown HR.out Hg.out hhr) (by omega) HRd.out (HB.out.grown Hg.out hne) Hb.out hne hlen hq hhr).mono ?_
      rintro e wa ⟨hx, hga⟩
      have Hga := Lib.hid (grown_trans Hg.out hga)
      have Hown2 := Lib.hid (Hown.out.kept hga (.inr (own_ne HRd.out (by decide) Hown.out)))
      have hsza := Hga.out.size
      clear hga
      rcases hx with ⟨s, hs, rfl, hra⟩ | ⟨hno, rfl, q', hq', hra⟩
      · have Hra := Lib.hid hra
        have Hs := Lib.hid hs
        have hs19 : s < 19 := by have := hs.1; omega
        have hm := hs.2.2.2.1
        obtain ⟨L, hL⟩ : ∃ L, L = (rd xs s).toNat := ⟨_, rfl⟩
        rw [← hL] at Hra hm
        have HLn := Lib.hid hL
        clear hs hra hL
        by_cases h16 : s < 16
        · have HL2 := listS_low hn0 Hs.out h16 (f := g)
          rw [HL.out, ← HLn.out] at HL2
          have HL3 := Lib.hid HL2.symm
          clear HL2
          go_wp2_with (at_builtin; refine wpList_app3 rfl _ _ rfl elIntN Hown2.out rfl rfl rfl rfl rfl (by omega) hsza ?_; intro g7 cap7 w7 hown7 hfr7 hat7 hlt7)
          have hra7 := Hra.out.fr hfr7 (fun o ho e => by simp at ho; subst ho; exact own_ne Hra.out (by decide) Hown2.out e)
          have hg7 := grown_fr Hga.out hfr7 (own_far Hown2.out (Nat.le_refl _))
          go_roundg g
          case measure => omega
          case rel => exact ⟨out ++ [(s : Int)], q + L, HL3.out, by simp; omega, by simp; omega, by omega, by rw [List.length_append, ints_append]; exact hown7, hra7, hg7⟩
        · have hag : 16 ≤ s := by omega
          go_wp2_with fail
          refine (again_calls s _ hag (by omega)).mono ?_
          rintro e wb ⟨rfl, rfl⟩
          have hsz1 := sizeS_le s
          obtain ⟨Z, hZ⟩ : ∃ Z, Z = sizeS s := ⟨_, rfl⟩
          obtain ⟨M, hM⟩ : ∃ M, M = leastS s := ⟨_, rfl⟩
          have hM1 := leastS_le s
          rw [← hZ] at hsz1 ⊢
          rw [← hM] at hM1 ⊢
          have HZ := Lib.hid hZ
          have HM := Lib.hid hM
          clear hZ hM
          by_cases hT : q + L + Z ≤ 8 * len
          · go_wp2_with fail
            refine (Bits_calls r A len cap (q + L) Z bs _ Hra.out (HB.out.grown Hga.out hne) Hb.out hne (by omega) (by omega) (by omega) hT).mono ?_
            rintro e wc ⟨rfl, hrc, hgc⟩
            have Hgc := Lib.hid (grown_trans Hga.out hgc)
            have Hown3 := Lib.hid (Hown2.out.kept hgc (.inr (own_ne Hra.out (by decide) Hown2.out)))
            have Hrc := Lib.hid hrc
            have hszc := Hgc.out.size
            have hxm := numAt_size bs (q + L) s
            obtain ⟨X, hX⟩ : ∃ X, X = numAt bs (q + L) Z := ⟨_, rfl⟩
            rw [← HZ.out, ← hX] at hxm
            rw [← hX]
            have HX : Hid (manyS bs (q + L) s = M + X) := by
              show manyS bs (q + L) s = M + X
              unfold manyS
              rw [hX, HZ.out, HM.out]
            clear hX hgc hrc
            by_cases h0 : s = 16 ∧ out.length = 0
            · have hRn : R = none := by rw [← HL.out]; exact listS_first hn0 Hs.out h0.1 h0.2
              have HRn := Lib.hid hRn
              obtain ⟨rfl, h00⟩ := h0
              rw [h00] at hn0 hlt ⊢
              clear hRn
              go_wp2
              refine bodyPost_ret (v := .tuple #[.slice none 0 0, .bool false]) (by simp [results, Tryd.results107, go_sem]) rfl ⟨.inr ⟨HRn.out, rfl, _, hT, Hrc.out⟩, Hgc.out⟩
            · have hlo : (s = 16 ∧ 0 < out.length) ∨ s ≠ 16 := by omega
              by_cases hmany : n < out.length + (M + X)
              · have hRn : R = none := by rw [← HL.out]; exact listS_long hn0 Hs.out h16 (by rw [← HLn.out, HX.out]; exact hmany)
                have HRn := Lib.hid hRn
                clear hRn
                rcases hlo with ⟨rfl, h00⟩ | h00
                · obtain ⟨ga, ca, e7, _, _, _, hac, _⟩ := own_form Hown3.out (by omega)
                  cases e7
                  have z := hac (out.length - 1) _ (ints_get (by omega))
                  have s9 : ((out.length : Int) - 1).toNat = out.length - 1 := by omega
                  have hneq : ((out.length : Int) == 0) = false := by rw [beq_eq_false_iff_ne]; omega
                  clear hac
                  go_wp2
                  refine bodyPost_ret (v := .tuple #[.slice none 0 0, .bool false]) (by simp [results, Tryd.results107, go_sem]) rfl ⟨.inr ⟨HRn.out, rfl, _, hT, Hrc.out⟩, Hgc.out⟩
                · have hneq : ((s : Int) == 16) = false := by simp; omega
                  go_wp2
                  refine bodyPost_ret (v := .tuple #[.slice none 0 0, .bool false]) (by simp [results, Tryd.results107, go_sem]) rfl ⟨.inr ⟨HRn.out, rfl, _, hT, Hrc.out⟩, Hgc.out⟩
              · have HL2 := listS_more hn0 Hs.out h16 h0 (by rw [← HLn.out, ← HZ.out]; omega) (by rw [← HLn.out, HX.out]; exact hmany) (f := g)
                rw [HL.out, ← HLn.out, HX.out, ← HZ.out] at HL2
                have HL3 := Lib.hid HL2.symm
                clear HL2
                rcases hlo with ⟨h16e, h00⟩ | h00
                · obtain ⟨ga, ca, e7, _, _, _, hac, _⟩ := own_form Hown3.out (by omega)
                  cases e7
                  have z := hac (out.length - 1) _ (ints_get (by omega))
                  have s9 : ((out.length : Int) - 1).toNat = out.length - 1 := by omega
                  have hneq : ((out.length : Int) == 0) = false := by rw [beq_eq_false_iff_ne]; omega
                  have hv : rd out (out.length - 1) = valueS out s := by unfold valueS; rw [if_pos h16e]
                  obtain ⟨V, hV⟩ : ∃ V, V = valueS out s := ⟨_, rfl⟩
                  rw [hv, ← hV] at z
                  rw [← hV] at HL3
                  subst h16e
                  clear hac hv hV
                  go_wp2
                  go_loopg [8, 72] (M + X) (fun g2 v i wy => ∃ j : Nat, j + g2 = M + X ∧ i = .int .i64 j ∧ Hid (wy.ownsRow w.heap.size 3 1 v (out.length + j) (ints .i64 (out ++ List.replicate j V))) ∧ Hid (RdrAt wy r A len cap (q + L + Z)) ∧ Hid (w.grownBy wy (some r)))
                  case atStart => exact ⟨0, by omega, rfl, by rw [List.replicate_zero, List.append_nil]; exact Hown3.out, Hrc.out, Hgc.out⟩
                  case round =>
                    obtain ⟨j, hj, rfl, Hoy, Hry, Hgy⟩ := hrel
                    have hszy := Hgy.out.size
                    obtain ⟨A5, c5, rfl⟩ := own_slice Hoy.out
                    by_cases hlt5 : j < M + X
                    · go_wp2_with (at_builtin; refine wpList_app3 rfl _ _ rfl elIntN Hoy.out rfl rfl rfl rfl rfl (by omega) hszy ?_; intro g7 cap7 w7 hown7 hfr7 hat7 hlt7)
                      have hra7 := Hry.out.fr hfr7 (fun o ho e => by simp at ho; subst ho; exact own_ne Hry.out (by decide) Hoy.out e)
                      have hg7 := grown_fr Hgy.out hfr7 (own_far Hoy.out (Nat.le_refl _))
                      go_roundg (gk - 1)
                      case measure => omega
                      case rel => exact ⟨j + 1, by omega, by go_num, by rw [List.replicate_succ', ← List.append_assoc, ints_append]; exact hown7, hra7, hg7⟩
                    · obtain rfl : j = M + X := by omega
                      go_wp2
                      go_roundg g
                      case measure => omega
                      case rel => exact ⟨out ++ List.replicate (M + X) V, q + L + Z, HL3.out, by simp; omega, by simp; omega, hT, by rw [List.length_append, List.length_replicate]; exact Hoy.out, Hry.out, Hgy.out⟩
                · have hneq : ((s : Int) == 16) = false := by simp; omega
                  have hv : valueS out s = 0 := by unfold valueS; rw [if_neg h00]
                  rw [hv] at HL3
                  obtain ⟨V, hV⟩ : ∃ V : Int, V = 0 := ⟨_, rfl⟩
                  rw [← hV] at HL3
                  clear hv
                  go_wp2
                  go_loopg [8, 72] (M + X) (fun g2 v i wy => ∃ j : Nat, j + g2 = M + X ∧ i = .int .i64 j ∧ Hid (wy.ownsRow w.heap.size 3 1 v (out.length + j) (ints .i64 (out ++ List.replicate j V))) ∧ Hid (RdrAt wy r A len cap (q + L + Z)) ∧ Hid (w.grownBy wy (some r)))
                  case atStart => exact ⟨0, by omega, rfl, by rw [List.replicate_zero, List.append_nil]; exact Hown3.out, Hrc.out, Hgc.out⟩
                  case round =>
                    obtain ⟨j, hj, rfl, Hoy, Hry, Hgy⟩ := hrel
                    have hszy := Hgy.out.size
                    obtain ⟨A5, c5, rfl⟩ := own_slice Hoy.out
                    by_cases hlt5 : j < M + X
                    · go_wp2_with (at_builtin; refine wpList_app3 rfl _ _ rfl elIntN Hoy.out rfl rfl rfl rfl rfl (by omega) hszy ?_; intro g7 cap7 w7 hown7 hfr7 hat7 hlt7)
                      have hra7 := Hry.out.fr hfr7 (fun o ho e => by simp at ho; subst ho; exact own_ne Hry.out (by decide) Hoy.out e)
                      have hg7 := grown_fr Hgy.out hfr7 (own_far Hoy.out (Nat.le_refl _))
                      go_roundg (gk - 1)
                      case measure => omega
                      case rel => exact ⟨j + 1, by omega, by go_num, by rw [List.replicate_succ', ← List.append_assoc, ints_append]; rw [hV] at hown7 ⊢; exact hown7, hra7, hg7⟩
                    · obtain rfl : j = M + X := by omega
                      go_wp2
                      go_roundg g
                      case measure => omega
                      case rel => exact ⟨out ++ List.replicate (M + X) V, q + L + Z, HL3.out, by simp; omega, by simp; omega, hT, by rw [List.length_append, List.length_replicate]; exact Hoy.out, Hry.out, Hgy.out⟩
          · have hRn : R = none := by rw [← HL.out]; exact listS_short hn0 Hs.out h16 (by rw [← HLn.out, ← HZ.out]; omega)
            have HRn := Lib.hid hRn
            clear hRn
            go_wp2_with fail
            refine (BitsShort_calls r A len cap (q + L) Z _ Hra.out (by omega) (by omega) (by omega) (by omega)).mono ?_
            rintro e wc ⟨rfl, hbc⟩
            have Hgc := Lib.hid (grown_below Hga.out hbc)
            have Hrc := Lib.hid (Hra.out.keep hbc)
            have Hown3 := Lib.hid (own_below Hown2.out hbc)
            clear hbc
            have hlo : (s = 16 ∧ out.length = 0) ∨ (s = 16 ∧ 0 < out.length) ∨ s ≠ 16 := by omega
            rcases hlo with ⟨rfl, h00⟩ | ⟨rfl, h00⟩ | h00
            · rw [h00] at hn0 hlt ⊢
              go_wp2
              refine bodyPost_ret (v := .tuple #[.slice none 0 0, .bool false]) (by simp [results, Tryd.results107, go_sem]) rfl ⟨.inr ⟨HRn.out, rfl, q + L, by omega, Hrc.out⟩, Hgc.out⟩
            · obtain ⟨ga, ca, e7, _, _, _, hac, _⟩ := own_form Hown3.out (by omega)
              cases e7
              have z := hac (out.length - 1) _ (ints_get (by omega))
              have s9 : ((out.length : Int) - 1).toNat = out.length - 1 := by omega
              have hneq : ((out.length : Int) == 0) = false := by rw [beq_eq_false_iff_ne]; omega
              clear hac
              go_wp2
              refine bodyPost_ret (v := .tuple #[.slice none 0 0, .bool false]) (by simp [results, Tryd.results107, go_sem]) rfl ⟨.inr ⟨HRn.out, rfl, q + L, by omega, Hrc.out⟩, Hgc.out⟩
            · have hneq : ((s : Int) == 16) = false := by simp; omega
              go_wp2
              refine bodyPost_ret (v := .tuple #[.slice none 0 0, .bool false]) (by simp [results, Tryd.results107, go_sem]) rfl ⟨.inr ⟨HRn.out, rfl, q + L, by omega, Hrc.out⟩, Hgc.out⟩
      · have hRn : R = none := by rw [← HL.out]; exact listS_no hn0 hno
        have HRn := Lib.hid hRn
        clear hRn
        go_wp2
        refine bodyPost_ret (v := .tuple #[.slice none 0 0, .bool false]) (by simp [results, Tryd.results107, go_sem]) rfl ⟨.inr ⟨HRn.out, rfl, q', hq', hra⟩, Hga.out⟩
    · have hRn : R = some (out, q) := by rw [← HL.out]; exact listS_done (by omega) (by omega)
      have HRn := Lib.hid hRn
      obtain rfl : n = out.length := by omega
      clear hRn
      go_wp2
      refine bodyPost_ret (v := .tuple #[.slice A1 out.length c1, .bool true]) (by simp [results, Tryd.results107, go_sem]) rfl ⟨.inl ⟨out, q, _, HRn.out, rfl, Hown.out, HRd.out⟩, Hg.out⟩
end Go.Proofs.YtendohnkhbgfbaaDoor
/-
  A slice of the laid table of the order.
-/
namespace Go.Proofs.YtendohnkhbgfbaaDoor
open Go.RowKit

theorem ord_slice (W : World) (k : IntKind) (h : Int) (m : Nat) (e : h = m) (hm : m ≤ 19) : (Instr.sliceAt 151 (.pointer (some ⟨1, 0, none⟩)) none (some (.int k h)) none).run Tryd.prog W = .ok (.slice (some ⟨1, 0, none⟩) m 19) W := by
  have ha : Tryd.prog.arrayLen 151 = 19 := by simp [Program.arrayLen, Tryd.underlying151]
  have hu : Tryd.prog.underlying 151 = some (.array (Tryd.prog.arrayLen 151) (Tryd.prog.elem 151)) := by simp [Program.arrayLen, Program.elem, Tryd.underlying151]
  subst e
  rw [run_sliceAt_array_h W _ _ hu k (m : Int) (by omega) (by rw [ha]; omega), ha]
  simp [Program.elem, Tryd.underlying151, go_sem]
end Go.Proofs.YtendohnkhbgfbaaDoor
/-
  What the rows' condition on the listed table of the order gives the walks: the table's cells.
-/
namespace Go.Proofs.YtendohnkhbgfbaaDoor
open Go.RowKit

/-- The laid table of the order. -/
def OrdAt (w : World) : Prop := ∀ j, j < 19 → w.cell? ⟨1, j, none⟩ = some (.int .i64 (ordL.getD j 0 : Nat))
/-- An array of numbers that reads as these holds them. -/
theorem ints_of_trod {H : Type} {enc : TypeId × Value → H} {P : Program} {w : World} {base : Nat} {sp : Nat → Bool} {held : Bool} {fuel t e n : Nat} {cs : List Value} {nums : List Int} {p : List MemPlace}
    (ht : P.underlying t = some (.array n e)) (k0 : P.underlying e = some (.int .i64)) (ce : P.cellsOf e = 1)
    (h : DataW.trod enc P w base sp held fuel t cs = some (.agg (nums.map fun r => .lit (.int .i64 r)), p)) :
    ∀ j, j < nums.length → cs[j]? = some (.int .i64 (rd nums j)) := by
  obtain ⟨xs, m, rfl, hx, hlen, hn, hel⟩ := DataW.trod_array ht h
  simp only [Prod.mk.injEq, DataW.agg.injEq] at hx
  intro j hj
  have hxl : xs.length = nums.length := by have := congrArg List.length hx.1; simpa using this.symm
  have hz := hel j (by omega)
  obtain ⟨x, hxj⟩ : ∃ x, xs[j]? = some x := ⟨xs[j]'(by omega), by simp [List.getElem?_eq_getElem (show j < xs.length by omega)]⟩
  rw [hxj, ce, Nat.mul_one] at hz
  obtain ⟨r0, e0, f0', _⟩ := DataW.trod_int k0 hz
  have hx1 : x.1 = (DataW.lit (.int .i64 (rd nums j)) : DataW H) := by
    have := congrArg (·[j]?) hx.1
    simp only [List.getElem?_map, hxj, Option.map_some, List.getElem?_eq_getElem hj] at this
    rw [rd_getElem hj]
    exact (Option.some.inj this).symm
  rw [f0'] at hx1
  simp at hx1
  subst hx1
  have g0 := congrArg (·[0]?) e0
  simp [List.getElem?_drop] at g0
  exact g0
theorem gOrd : Tryd.prog.globalNamed "inkwell/codes.order" = some 1 := by kernel_rfl
theorem tOrd : (Tryd.prog.globals[1]?).map (·.type) = some 151 := by kernel_rfl
def ordI : List Int := [16, 17, 18, 0, 8, 7, 9, 6, 10, 5, 11, 4, 12, 3, 13, 2, 14, 1, 15]
theorem rd_ordI : ∀ j, j < 19 → rd ordI j = ((ordL.getD j 0 : Nat) : Int) := by decide
theorem ord_of_laid {W : World} (h : laidMetH Tryd.prog [("inkwell/codes.order", Rows.laid_inkwell_codes_order)] W) : OrdAt W := by
  rw [MakeChecks.laidMetH_plain _ _ _ (by kernel_rfl)] at h
  obtain ⟨ps, ⟨g0, t0, cs0, n0, p0, q0, hg0, ht0, hv0, hd0, _, _⟩, _, _⟩ := h
  obtain rfl := Option.some.inj (gOrd.symm.trans hg0)
  obtain rfl := Option.some.inj (tOrd.symm.trans ht0)
  have u0 := ints_of_trod (nums := ordI) Tryd.underlying151 Tryd.underlying3 (by kernel_rfl) hd0
  intro j hj
  have := u0 j hj
  simp only [Array.getElem?_toList] at this
  rw [World.var?_cell hg0 hv0, this, rd_ordI j hj]
end Go.Proofs.YtendohnkhbgfbaaDoor
/-
  What the bits of two codes' lengths tell: small facts.
-/
namespace Go.Proofs.YtendohnkhbgfbaaDoor
open Go.RowKit

theorem rd_takeL {l : List Int} {n j : Nat} (h : j < n) : rd (l.take n) j = rd l j := by
  unfold rd
  rw [List.getD_eq_getElem?_getD, List.getD_eq_getElem?_getD, List.getElem?_take_of_lt h]
theorem rd_dropL {l : List Int} {n j : Nat} : rd (l.drop n) j = rd l (n + j) := by
  unfold rd
  rw [List.getD_eq_getElem?_getD, List.getD_eq_getElem?_getD, List.getElem?_drop]
theorem rd_front {w : World} {k : IntKind} {b o n : Nat} {l : List Int} (h : Rd w k (some ⟨b, o, none⟩) n l) (m : Nat) (hm : m ≤ n) : Rd w k (some ⟨b, o, none⟩) m (l.take m) :=
  ⟨by rw [List.length_take, h.1]; omega, fun hm0 => ⟨b, o, rfl, fun j hj => by
    obtain ⟨b', o', e, hc⟩ := h.2 (by omega)
    cases e
    rw [rd_takeL hj]
    exact hc j (by omega)⟩⟩
theorem rd_back {w : World} {k : IntKind} {b o n : Nat} {l : List Int} (h : Rd w k (some ⟨b, o, none⟩) n l) (m : Nat) (hm : m ≤ n) : Rd w k (some ⟨b, o + m, none⟩) (n - m) (l.drop m) :=
  ⟨by rw [List.length_drop, h.1], fun hm0 => ⟨b, o + m, rfl, fun j hj => by
    obtain ⟨b', o', e, hc⟩ := h.2 (by omega)
    cases e
    rw [rd_dropL, Nat.add_assoc]
    exact hc (m + j) (by omega)⟩⟩
theorem getS_short {bs : List Int} {T p : Nat} (h : T < p + 14) : getS bs T p = none := by unfold getS; rw [if_pos h]
theorem getS_big {bs : List Int} {T p : Nat} (h : 29 < numAt bs p 5 ∨ 29 < numAt bs (p + 5) 5) : getS bs T p = none := by
  unfold getS
  split
  · rfl
  · first | rfl | rw [if_pos h]
theorem getS_few {bs : List Int} {T p : Nat} (h : T < p + 14 + 3 * (numAt bs (p + 10) 4 + 4)) : getS bs T p = none := by
  unfold getS
  split
  · rfl
  · split
    · rfl
    · first | rfl | rw [if_pos h]
theorem getS_bad {bs : List Int} {T p : Nat} (h : rightB (lensS bs (p + 14) (numAt bs (p + 10) 4 + 4)) = false) : getS bs T p = none := by
  unfold getS
  split
  · rfl
  · split
    · rfl
    · split
      · rfl
      · first | rfl | rw [if_pos h]
theorem getS_list {bs : List Int} {T p a d m : Nat} (h1 : p + 14 + 3 * (m + 4) ≤ T) (ha : numAt bs p 5 = a) (hd : numAt bs (p + 5) 5 = d) (hm : numAt bs (p + 10) 4 = m) (h2 : a ≤ 29) (h3 : d ≤ 29) (h4 : rightB (lensS bs (p + 14) (m + 4)) = true) :
    getS bs T p = match listS (lensS bs (p + 14) (m + 4)) bs T (a + 257 + (d + 1)) (a + 257 + (d + 1) + 1) (p + 14 + 3 * (m + 4)) [] with
      | none => none
      | some (l, q) => if rd l 256 = 0 then none else some (l.take (a + 257), l.drop (a + 257), q) := by
  subst ha hd hm
  unfold getS
  rw [if_neg (by omega), if_neg (by omega), if_neg (by omega), if_neg (by rw [h4]; decide)]
  rfl
end Go.Proofs.YtendohnkhbgfbaaDoor
/-
  The walk of Get (package codes).
-/
namespace Go.Proofs.YtendohnkhbgfbaaDoor
open Go.RowKit



theorem OrdAt.grown {w w1 : World} {r : Nat} (h : OrdAt w) (hg : w.grownBy w1 (some r)) (hr : 1 ≠ r) : OrdAt w1 := fun j hj => hg.cell (h j hj) (by simpa using hr)
theorem OrdAt.below {w w1 : World} (h : OrdAt w) (hb : Below w.heap.size w w1) : OrdAt w1 := fun j hj => kept_cell hb (h j hj)
theorem Bits_any (r : Nat) (A : Option Addr) (len cap at' n : Nat) (bs : List Int) (w : World) (hR : RdrAt w r A len cap at') (hB : Rd w .u8 A len bs) (hb : ∀ j, j < len → 0 ≤ rd bs j ∧ rd bs j ≤ 255) (hne : ∀ b o, A = some ⟨b, o, none⟩ → b ≠ r) (hlen : len ≤ 1000000) (hat : at' ≤ 8 * len) (hn : n ≤ 60) :
    Calls Tryd.prog 76 #[.pointer (some ⟨r, 0, none⟩), .int .i64 n] w fun e w' => ((at' + n ≤ 8 * len ∧ e = .returned (.tuple #[(.int .u64 (numAt bs at' n : Nat)), .bool true]) ∧ RdrAt w' r A len cap (at' + n)) ∨ (8 * len < at' + n ∧ e = .returned (.tuple #[.int .u64 0, .bool false]) ∧ RdrAt w' r A len cap at')) ∧ w.grownBy w' (some r) := by
  rcases Nat.lt_or_ge (8 * len) (at' + n) with h | h
  · refine (BitsShort_calls r A len cap at' n w hR (by omega) hat hn h).mono ?_
    rintro e w1 ⟨rfl, hb1⟩
    exact ⟨.inr ⟨h, rfl, hR.keep hb1⟩, grown_below (grown_refl _ _) hb1⟩
  · refine (Bits_calls r A len cap at' n bs w hR hB hb hne (by omega) hat hn h).mono ?_
    rintro e w1 ⟨rfl, h1, h2⟩
    exact ⟨.inl ⟨h, rfl, h1⟩, h2⟩
set_option maxHeartbeats 4000000 in
set_option maxRecDepth 100000 in
theorem Get_calls (r : Nat) (A : Option Addr) (len cap p : Nat) (bs : List Int) (w : World) (hO : OrdAt w) (hor : 1 ≠ r) (hR : RdrAt w r A len cap p) (hB : Rd w .u8 A len bs) (hb : ∀ j, j < len → 0 ≤ rd bs j ∧ rd bs j ≤ 255) (hne : ∀ b o, A = some ⟨b, o, none⟩ → b ≠ r) (hlen : len ≤ 1000000) (hp : p ≤ 8 * len) :
    Calls Tryd.prog 75 #[.pointer (some ⟨r, 0, none⟩)] w fun e w' =>
      ((∃ l1 l2 q A1 c1 A2 c2, getS bs (8 * len) p = some (l1, l2, q) ∧ e = .returned (.tuple #[.slice A1 l1.length c1, .slice A2 l2.length c2, .bool true]) ∧ Rd w' .i64 A1 l1.length l1 ∧ Rd w' .i64 A2 l2.length l2 ∧ RdrAt w' r A len cap q) ∨
       (getS bs (8 * len) p = none ∧ e = .returned (.tuple #[.slice none 0 0, .slice none 0 0, .bool false]) ∧ ∃ q, q ≤ 8 * len ∧ RdrAt w' r A len cap q)) ∧ w.grownBy w' (some r) := by
  have HO := Lib.hid hO
  have HR := Lib.hid hR
  have HB := Lib.hid hB
  have Hb := Lib.hid hb
  clear hO hR hB hb
  go_enter Tryd.func75, Tryd.ntmps75
  go_wp2_with fail
  refine (Bits_any r A len cap p 5 bs _ HR.out HB.out Hb.out hne hlen hp (by omega)).mono ?_
  rintro e w1 ⟨hx1, hg1⟩
  have Hg1 := Lib.hid hg1
  have HB1 := Lib.hid (HB.out.grown hg1 hne)
  clear hg1
  rcases Nat.lt_or_ge (8 * len) (p + 14) with h14 | h14
  · have hno := Lib.hid (getS_short (bs := bs) (T := 8 * len) (p := p) h14)
    have key : ∃ (a : Nat) (ba : Bool) (q1 : Nat), a ≤ 31 ∧ e = .returned (.tuple #[.int .u64 a, .bool ba]) ∧ RdrAt w1 r A len cap q1 ∧ q1 ≤ 8 * len ∧ (8 * len < q1 + 5 ∨ (q1 = p + 5)) := by
      rcases hx1 with ⟨h1, rfl, h2⟩ | ⟨h1, rfl, h2⟩
      · exact ⟨_, _, _, by have := numAt_lt bs p 5; omega, rfl, h2, h1, .inr rfl⟩
      · exact ⟨0, _, _, by omega, rfl, h2, hp, .inl h1⟩
    obtain ⟨a, ba, q1, ha, rfl, hr1, hq1, hqq⟩ := key
    have Hr1 := Lib.hid hr1
    clear hx1 hr1
    go_wp2_with fail
    refine (Bits_any r A len cap q1 5 bs _ Hr1.out HB1.out Hb.out hne hlen hq1 (by omega)).mono ?_
    rintro e w2 ⟨hx2, hg2⟩
    have Hg2 := Lib.hid (grown_trans Hg1.out hg2)
    have HB2 := Lib.hid (HB1.out.grown hg2 hne)
    clear hg2
    have key : ∃ (d : Nat) (bd : Bool) (q2 : Nat), d ≤ 31 ∧ e = .returned (.tuple #[.int .u64 d, .bool bd]) ∧ RdrAt w2 r A len cap q2 ∧ q2 ≤ 8 * len ∧ (8 * len < q2 + 4 ∨ (8 * len < q2 + 5 ∧ d = 0)) := by
      rcases hx2 with ⟨h1, rfl, h2⟩ | ⟨h1, rfl, h2⟩
      · exact ⟨_, _, _, by have := numAt_lt bs q1 5; omega, rfl, h2, h1, .inl (by omega)⟩
      · exact ⟨0, _, _, by omega, rfl, h2, hq1, .inr ⟨h1, rfl⟩⟩
    obtain ⟨d, bd, q2, hd, rfl, hr2, hq2, hqq2⟩ := key
    have Hr2 := Lib.hid hr2
    clear hx2 hr2
    go_wp2_with fail
    refine (Bits_any r A len cap q2 4 bs _ Hr2.out HB2.out Hb.out hne hlen hq2 (by omega)).mono ?_
    rintro e w3 ⟨hx3, hg3⟩
    have Hg3 := Lib.hid (grown_trans Hg2.out hg3)
    have HB3 := Lib.hid (HB2.out.grown hg3 hne)
    clear hg3
    rcases hx3 with ⟨h1, rfl, h2⟩ | ⟨h1, rfl, h2⟩
    · obtain rfl : d = 0 := by omega
      have Hr3 := Lib.hid h2
      have hM16 := numAt_lt bs q2 4
      obtain ⟨M, hM⟩ : ∃ M, numAt bs q2 4 = M := ⟨_, rfl⟩
      rw [hM] at hM16 ⊢
      replace hM16 : M ≤ 15 := by omega
      clear h2 hM
      by_cases ha29 : 29 < a
      · have t2 : (29 : Int) < (a : Int) := by omega
        go_wp2
        refine bodyPost_ret (v := .tuple #[.slice none 0 0, .slice none 0 0, .bool false]) (by simp [results, Tryd.results75, go_sem]) rfl ⟨.inr ⟨hno.out, rfl, _, by omega, Hr3.out⟩, Hg3.out⟩
      · have hsz3 := Hg3.out.size
        have t2 : (a : Int) ≤ 29 := by omega
        have hsl := fun W => ord_slice W .u64 ((M : Int) + 4) (M + 4) (by omega) (by omega)
        go_wp2_with (at_make; refine wpList_mk1 (base := w3.heap.size) (n := 19) _ rfl _ _ rfl elIntN rfl rfl rfl rfl (by omega) (Nat.le_refl _) ?_; intro w4 hown4 hb4 hsz4)
        have HO4 := Lib.hid ((HO.out.grown Hg3.out hor).below hb4)
        have Hr4 := Lib.hid (Hr3.out.keep hb4)
        have Hg4 := Lib.hid (grown_below Hg3.out hb4)
        have HB4 := Lib.hid (HB3.out.below hb4)
        clear hown4 hb4
        have i1 : (0 : Int) < (M : Int) + 4 := by omega
        go_loopw [49] (fun i wr => i = .int .i64 0 ∧ w4 = wr) (fun _ _ => 0)
        case atStart => exact ⟨rfl, rfl⟩
        case round =>
          obtain ⟨rfl, rfl⟩ := hrel
          have z := HO4.out 0 (by omega)
          go_wp2_with fail
          refine (BitsShort_calls r A len cap (q2 + 4) 3 _ Hr4.out (by omega) h1 (by omega) (by omega)).mono ?_
          rintro e w5 ⟨rfl, hb5⟩
          have Hg5 := Lib.hid (grown_below Hg4.out hb5)
          have Hr5 := Lib.hid (Hr4.out.keep hb5)
          clear hb5
          go_wp2
          refine bodyPost_ret (v := .tuple #[.slice none 0 0, .slice none 0 0, .bool false]) (by simp [results, Tryd.results75, go_sem]) rfl ⟨.inr ⟨hno.out, rfl, _, h1, Hr5.out⟩, Hg5.out⟩
    · have Hr3 := Lib.hid h2
      clear h2
      go_wp2
      refine bodyPost_ret (v := .tuple #[.slice none 0 0, .slice none 0 0, .bool false]) (by simp [results, Tryd.results75, go_sem]) rfl ⟨.inr ⟨hno.out, rfl, _, hq2, Hr3.out⟩, Hg3.out⟩
  · rcases hx1 with ⟨h1, rfl, h2⟩ | ⟨h1, rfl, h2⟩
    case inr => omega
    have Hr1 := Lib.hid h2
    clear h1 h2
    go_wp2_with fail
    refine (Bits_calls r A len cap (p + 5) 5 bs _ Hr1.out HB1.out Hb.out hne (by omega) (by omega) (by omega) (by omega)).mono ?_
    rintro e w2 ⟨rfl, hr2, hg2⟩
    have Hg2 := Lib.hid (grown_trans Hg1.out hg2)
    have HB2 := Lib.hid (HB1.out.grown hg2 hne)
    have Hr2 := Lib.hid hr2
    clear hg2 hr2
    go_wp2_with fail
    refine (Bits_calls r A len cap (p + 5 + 5) 4 bs _ Hr2.out HB2.out Hb.out hne (by omega) (by omega) (by omega) (by omega)).mono ?_
    rintro e w3 ⟨rfl, hr3, hg3⟩
    have Hg3 := Lib.hid (grown_trans Hg2.out hg3)
    have HB3 := Lib.hid (HB2.out.grown hg3 hne)
    have Hr3 : Hid (RdrAt w3 r A len cap (p + 14)) := hr3
    clear hg3 hr3
    have ha32 := numAt_lt bs p 5
    have hd32 := numAt_lt bs (p + 5) 5
    have hM16 := numAt_lt bs (p + 5 + 5) 4
    obtain ⟨a, ha⟩ : ∃ a, numAt bs p 5 = a := ⟨_, rfl⟩
    obtain ⟨d, hd⟩ : ∃ d, numAt bs (p + 5) 5 = d := ⟨_, rfl⟩
    obtain ⟨M, hM⟩ : ∃ M, numAt bs (p + 5 + 5) 4 = M := ⟨_, rfl⟩
    rw [ha, hd, hM]
    rw [ha] at ha32
    rw [hd] at hd32
    rw [hM] at hM16
    have Ha := Lib.hid ha
    have Hd := Lib.hid hd
    have HM : Hid (numAt bs (p + 10) 4 = M) := hM
    replace ha32 : a ≤ 31 := by omega
    replace hd32 : d ≤ 31 := by omega
    replace hM16 : M ≤ 15 := by omega
    clear ha hd hM
    by_cases hbig : 29 < a ∨ 29 < d
    · have hno := Lib.hid (getS_big (bs := bs) (T := 8 * len) (p := p) (by rw [Ha.out, Hd.out]; exact hbig))
      rcases Nat.lt_or_ge 29 a with hb2 | hb2
      · have t2 : (29 : Int) < (a : Int) := by omega
        go_wp2
        refine bodyPost_ret (v := .tuple #[.slice none 0 0, .slice none 0 0, .bool false]) (by simp [results, Tryd.results75, go_sem]) rfl ⟨.inr ⟨hno.out, rfl, _, h14, Hr3.out⟩, Hg3.out⟩
      · have t2 : (a : Int) ≤ 29 := by omega
        have t3 : (29 : Int) < (d : Int) := by omega
        clear hb2
        go_wp2
        refine bodyPost_ret (v := .tuple #[.slice none 0 0, .slice none 0 0, .bool false]) (by simp [results, Tryd.results75, go_sem]) rfl ⟨.inr ⟨hno.out, rfl, _, h14, Hr3.out⟩, Hg3.out⟩
    · have ha29 : a ≤ 29 := by omega
      have hd29 : d ≤ 29 := by omega
      clear hbig
      have hsz3 := Hg3.out.size
      have t2 : (a : Int) ≤ 29 := by omega
      have t3 : (d : Int) ≤ 29 := by omega
      have hsl := fun W => ord_slice W .u64 ((M : Int) + 4) (M + 4) (by omega) (by omega)
      go_wp2_with (at_make; refine wpList_mk1 (base := w3.heap.size) (n := 19) _ rfl _ _ rfl elIntN rfl rfl rfl rfl (by omega) (Nat.le_refl _) ?_; intro w4 hown4 hb4 hsz4)
      have Hown4 := Lib.hid hown4
      have Hr4 := Lib.hid (Hr3.out.keep hb4)
      have Hg4 := Lib.hid (grown_below Hg3.out hb4)
      clear hown4 hb4
      go_loopw [49] (fun i wr => ∃ k : Nat, k ≤ M + 4 ∧ i = .int .i64 k ∧ p + 14 + 3 * k ≤ 8 * len ∧ Hid (wr.ownsRow w3.heap.size 3 1 (.slice (some ⟨w3.heap.size, 0, none⟩) 19 19) 19 (ints .i64 (lensS bs (p + 14) k))) ∧ Hid (RdrAt wr r A len cap (p + 14 + 3 * k)) ∧ Hid (w.grownBy wr (some r))) (fun i _ => M + 4 - (intOf i).toNat)
      case atStart => exact ⟨0, by omega, rfl, by omega, Hown4.out, Hr4.out, Hg4.out⟩
      case round =>
        obtain ⟨k, hk, rfl, hkT, Hown, Hr, Hg⟩ := hrel
        obtain ⟨wr, hwr⟩ : ∃ W, W = wr := ⟨_, rfl⟩
        subst hwr
        by_cases hlt : k < M + 4
        · have z := HO.out.grown Hg.out hor k (by omega)
          have hol := ordL_lt k
          have hnx : lensS bs (p + 14) (k + 1) = (lensS bs (p + 14) k).set (ordL.getD k 0) (numAt bs (p + 14 + 3 * k) 3 : Nat) := rfl
          have hll := lensS_length bs (p + 14) k
          obtain ⟨oi, hoi⟩ : ∃ oi, oi = ordL.getD k 0 := ⟨_, rfl⟩
          rw [← hoi] at hol hnx z
          have Hnx := Lib.hid hnx
          have Hll := Lib.hid hll
          clear hnx hoi hll
          have i1 : (k : Int) < (M : Int) + 4 := by omega
          have i6 : (oi : Int) < 19 := by omega
          go_wp2_with fail
          refine (Bits_any r A len cap (p + 14 + 3 * k) 3 bs _ Hr.out (HB.out.grown Hg.out hne) Hb.out hne hlen hkT (by omega)).mono ?_
          rintro e w5 ⟨hx5, hg5⟩
          have Hg5 := Lib.hid (grown_trans Hg.out hg5)
          have Hown5 := Lib.hid (Hown.out.kept hg5 (.inr (own_ne Hr.out (by decide) Hown.out)))
          clear hg5
          rcases hx5 with ⟨h1, rfl, h2⟩ | ⟨h1, rfl, h2⟩
          · have Hr5 := Lib.hid h2
            have hgr := own_ne Hr5.out (by decide) Hown5.out
            have hgr : w3.heap.size ≠ r := fun e => hgr (by rw [← e]; rfl)
            have z0 := Hown5.out.cellAt oi (by omega)
            rw [ints_get (by rw [Hll.out]; exact hol)] at z0
            have f0 := Hown5.out.frozenAt oi
            have hx8 := numAt_lt bs (p + 14 + 3 * k) 3
            obtain ⟨X, hX⟩ : ∃ X, numAt bs (p + 14 + 3 * k) 3 = X := ⟨_, rfl⟩
            rw [hX] at hx8 ⊢
            rw [hX] at Hnx
            replace hx8 : X ≤ 7 := by omega
            clear h2 hX
            go_wp2
            go_roundw
            case rel =>
              have hfr : Fr w5 (w5.setCell ⟨w3.heap.size, oi, none⟩ (.int .i64 X)) [some w3.heap.size] := (Fr.refl _ _).set _ _ (.inl (by simp))
              refine ⟨k + 1, by omega, by go_num, by omega, ?_, Hr5.out.fr hfr (fun o ho e => by simp at ho; subst ho; cases e; exact hgr rfl), grown_fr Hg5.out hfr (fun o ho j e => by simp at ho; subst ho; cases e; exact hsz3)⟩
              have h9 := own_store Hown5.out oi (.int .i64 X)
              rw [← ints_set, ← Hnx.out] at h9
              exact h9
            case measure => simp [intOf]; omega
          · have hno := Lib.hid (getS_few (bs := bs) (T := 8 * len) (p := p) (by rw [HM.out]; omega))
            have Hr5 := Lib.hid h2
            clear h2
            go_wp2
            refine bodyPost_ret (v := .tuple #[.slice none 0 0, .slice none 0 0, .bool false]) (by simp [results, Tryd.results75, go_sem]) rfl ⟨.inr ⟨hno.out, rfl, _, hkT, Hr5.out⟩, Hg5.out⟩
        · obtain rfl : k = M + 4 := by omega
          have hxl := Lib.hid (lensS_length bs (p + 14) (M + 4))
          obtain ⟨xs, hxs⟩ : ∃ xs, xs = lensS bs (p + 14) (M + 4) := ⟨_, rfl⟩
          rw [← hxs] at Hown hxl
          have Hxs := Lib.hid hxs
          obtain ⟨_, _, e9, _, hrx⟩ := own_rd Hown.out
          cases e9
          have HRx := Lib.hid hrx
          clear hxs hrx
          go_wp2_with fail
          refine (New_calls _ 19 19 xs _ HRx.out (by omega)).mono ?_
          rintro e w6 ⟨hx6, hb6⟩
          have Hg6 := Lib.hid (grown_below Hg.out hb6)
          have Hr6 := Lib.hid (Hr.out.keep hb6)
          have hsr := Hr.out.lt
          clear hb6
          rcases hx6 with ⟨hr, rfl⟩ | ⟨hr, h, rfl, hcod⟩
          · have hno := Lib.hid (getS_bad (bs := bs) (T := 8 * len) (p := p) (by rw [HM.out, ← Hxs.out]; exact hr))
            clear hr
            go_wp2
            refine bodyPost_ret (v := .tuple #[.slice none 0 0, .slice none 0 0, .bool false]) (by simp [results, Tryd.results75, go_sem]) rfl ⟨.inr ⟨hno.out, rfl, _, hkT, Hr6.out⟩, Hg6.out⟩
          · have hgl := getS_list (bs := bs) (T := 8 * len) (p := p) (by omega) Ha.out Hd.out HM.out ha29 hd29 (by rw [← Hxs.out]; exact hr)
            rw [← Hxs.out] at hgl
            have hhr : h ≠ r := by obtain ⟨_, _, _, h2, _⟩ := hcod; omega
            have HC := Lib.hid hcod
            obtain ⟨n, hn⟩ : ∃ n, n = a + 257 + (d + 1) := ⟨_, rfl⟩
            obtain ⟨q0, hq0⟩ : ∃ q0, q0 = p + 14 + 3 * (M + 4) := ⟨_, rfl⟩
            rw [← hn, ← hq0] at hgl
            rw [← hq0] at Hr6
            have h258 : 258 ≤ n := by omega
            have hn1000 : n ≤ 1000 := by omega
            have e2 : n - (a + 257) = d + 1 := by omega
            have hq0T : q0 ≤ 8 * len := by omega
            have Hgl := Lib.hid hgl
            have sn : (a : Int) + 257 + (d : Int) + 1 = ((n : Nat) : Int) := by omega
            clear hr hcod hgl
            clear hn hq0
            go_wp2_with fail
            try rw [sn]
            refine (list_calls h r wr.heap.size A len cap q0 n xs bs _ HC.out (by rw [hxl.out]; omega) Hr6.out (HB.out.grown Hg6.out hne) Hb.out hne hlen (by omega) hhr (by omega)).mono ?_
            rintro e w7 ⟨hx7, hg7⟩
            have Hg7 := Lib.hid (grown_trans Hg6.out hg7)
            clear hg7
            rcases hx7 with ⟨l, q, v, hl, rfl, hown7, hr7⟩ | ⟨hl, rfl, q, hq, hr7⟩
            · have hln := (listS_len (out := []) (by simp) (by omega) hl)
              have hgo := Hgl.out
              rw [hl] at hgo
              obtain ⟨go, co, rfl, _, _, hco, hoc, _⟩ := own_form hown7 (by omega)
              have z := hoc 256 _ (ints_get (by omega))
              obtain ⟨_, _, e8, _, hro⟩ := own_rd hown7
              cases e8
              have Hro := Lib.hid hro
              have Hr7 := Lib.hid hr7
              have Hgo := Lib.hid hgo
              obtain ⟨hl1, hl2⟩ := hln
              obtain ⟨y, hy⟩ : ∃ y, rd l 256 = y := ⟨_, rfl⟩
              rw [hy] at z
              have Hy := Lib.hid hy
              clear hoc hro hy hown7 hr7 hgo
              by_cases hy0 : y = 0
              · have hno2 : getS bs (8 * len) p = none := by rw [Hgo.out]; simp [Hy.out, hy0]
                have Hno := Lib.hid hno2
                subst hy0
                clear hno2
                go_wp2
                refine bodyPost_ret (v := .tuple #[.slice none 0 0, .slice none 0 0, .bool false]) (by simp [results, Tryd.results75, go_sem]) rfl ⟨.inr ⟨Hno.out, rfl, _, hl2, Hr7.out⟩, Hg7.out⟩
              · have hyes : getS bs (8 * len) p = some (l.take (a + 257), l.drop (a + 257), q) := by rw [Hgo.out]; simp [Hy.out, hy0]
                have Hyes := Lib.hid hyes
                have d0 : (y == 0) = false := by simpa using hy0
                have s1 : ((a : Int) + 257).toNat = a + 257 := by omega
                have f1 := rd_front Hro.out (a + 257) (by omega)
                have f2 := rd_back Hro.out (a + 257) (by omega)
                have l1 : (l.take (a + 257)).length = a + 257 := by rw [List.length_take]; omega
                rw [e2] at f2
                have l2 : (l.drop (a + 257)).length = d + 1 := by rw [List.length_drop, hl1, e2]
                have F1 := Lib.hid f1
                have F2 := Lib.hid f2
                have L1 := Lib.hid l1
                have L2 := Lib.hid l2
                clear hyes f1 f2 l1 l2
                go_wp2
                go_region
                go_wp2
                refine bodyPost_ret (v := .tuple #[.slice (some ⟨go, 0, none⟩) (a + 257) (a + 257), .slice (some ⟨go, 0 + (a + 257), none⟩) (d + 1) (co - (a + 257)), .bool true]) (by simp [results, Tryd.results75, go_sem]) rfl ⟨.inl ⟨_, _, q, _, _, _, _, Hyes.out, by rw [L1.out, L2.out], ?_, ?_, ?_⟩, grown_below Hg7.out (Below.refl _ _).drew⟩
                · rw [L1.out]; exact F1.out.drew
                · rw [L2.out]; exact F2.out.drew
                · exact Hr7.out.keep (Below.refl _ _).drew
            · have hno2 : getS bs (8 * len) p = none := by rw [Hgl.out, hl]
              have Hno := Lib.hid hno2
              have Hr7 := Lib.hid hr7
              clear hno2 hr7
              go_wp2
              refine bodyPost_ret (v := .tuple #[.slice none 0 0, .slice none 0 0, .bool false]) (by simp [results, Tryd.results75, go_sem]) rfl ⟨.inr ⟨Hno.out, rfl, _, hq, Hr7.out⟩, Hg7.out⟩
end Go.Proofs.YtendohnkhbgfbaaDoor
/-
  Bits as bytes: the lowest bit first (no program).
-/
namespace Go.Proofs.YtendohnkhbgfbaaDoor
open Go.RowKit

/-- The number that bits tell, the lowest first. -/
def pk (f : Nat → Nat) : Nat → Nat
  | 0 => 0
  | k + 1 => pk f k + f k * 2 ^ k
theorem pk_lt {f : Nat → Nat} (h : ∀ i, f i ≤ 1) (k : Nat) : pk f k < 2 ^ k := by
  induction k with
  | zero => simp [pk]
  | succ k ih =>
    have := Nat.mul_le_mul_right (2 ^ k) (h k)
    simp only [pk, Nat.pow_succ]
    omega
theorem pk_congr {f g : Nat → Nat} {k : Nat} (h : ∀ i, i < k → f i = g i) : pk f k = pk g k := by
  induction k with
  | zero => rfl
  | succ k ih =>
    simp only [pk]
    rw [ih (fun i hi => h i (by omega)), h k (by omega)]
theorem pk_bit {f : Nat → Nat} (h : ∀ i, f i ≤ 1) : ∀ (k i : Nat), i < k → pk f k / 2 ^ i % 2 = f i := by
  intro k
  induction k with
  | zero => intro i hi; omega
  | succ k ih =>
    intro i hi
    simp only [pk]
    rcases Nat.lt_or_ge i k with g | g
    · have e : f k * 2 ^ k = (f k * 2 ^ (k - i - 1) * 2) * 2 ^ i := by
        rw [Nat.mul_assoc, Nat.mul_assoc, ← Nat.pow_succ', ← Nat.pow_add]
        congr 2
        omega
      rw [e, Nat.add_mul_div_right _ _ (Nat.pow_pos (by omega)), Nat.add_mul_mod_self_right]
      exact ih i g
    · obtain rfl : i = k := by omega
      rw [Nat.add_mul_div_right _ _ (Nat.pow_pos (by omega)), Nat.div_eq_of_lt (pk_lt h i), Nat.zero_add]
      have := h i
      omega
theorem numAt_pk (bs : List Int) (p k : Nat) : numAt bs p k = pk (fun i => bitAt bs (p + i)) k := by
  induction k with
  | zero => rfl
  | succ k ih => simp only [numAt, pk, ih]
def Bit01 (L : List Int) : Prop := ∀ x ∈ L, x = 0 ∨ x = 1
theorem Bit01.rd {L : List Int} (h : Bit01 L) (i : Nat) : Go.Proofs.YtendohnkhbgfbaaDoor.rd L i = 0 ∨ Go.Proofs.YtendohnkhbgfbaaDoor.rd L i = 1 := by
  rcases Nat.lt_or_ge i L.length with g | g
  · rw [rd_getElem g]; exact h _ (List.getElem_mem _)
  · left
    unfold Go.Proofs.YtendohnkhbgfbaaDoor.rd
    rw [List.getD_eq_getElem?_getD, List.getElem?_eq_none g]
    rfl
theorem Bit01.app {a b : List Int} (ha : Bit01 a) (hb : Bit01 b) : Bit01 (a ++ b) := fun x hx => (List.mem_append.1 hx).elim (ha x) (hb x)
theorem rd_out {L : List Int} {i : Nat} (h : L.length ≤ i) : rd L i = 0 := by
  unfold rd
  rw [List.getD_eq_getElem?_getD, List.getElem?_eq_none h]
  rfl
def packAt (L : List Int) (j : Nat) : Nat := pk (fun i => (rd L (8 * j + i)).toNat) 8
theorem packAt_lt {L : List Int} (h : Bit01 L) (j : Nat) : packAt L j < 256 := pk_lt (fun i => by rcases h.rd (8 * j + i) with e | e <;> rw [e] <;> decide) 8
/-- The bytes of bits; the last ones filled up with 0. -/
def packB (L : List Int) : List Int := (List.range ((L.length + 7) / 8)).map fun j => (packAt L j : Int)
theorem packB_length (L : List Int) : (packB L).length = (L.length + 7) / 8 := by simp [packB]
theorem rd_packB {L : List Int} {j : Nat} (h : j < (L.length + 7) / 8) : rd (packB L) j = (packAt L j : Int) := by
  rw [rd_getElem (by rw [packB_length]; exact h)]
  simp [packB]
theorem bitAt_packB {L : List Int} (h : Bit01 L) {i : Nat} (hi : i < 8 * ((L.length + 7) / 8)) : bitAt (packB L) i = (rd L i).toNat := by
  unfold bitAt
  rw [rd_packB (by omega), Int.toNat_natCast]
  unfold packAt
  rw [pk_bit (fun i' => by rcases h.rd (8 * (i / 8) + i') with e | e <;> rw [e] <;> decide) 8 (i % 8) (by omega), show 8 * (i / 8) + i % 8 = i from by omega]
theorem packB_byte {L : List Int} (h : Bit01 L) (j : Nat) (hj : j < (L.length + 7) / 8) : 0 ≤ rd (packB L) j ∧ rd (packB L) j ≤ 255 := by
  have := packAt_lt h j
  rw [rd_packB hj]
  omega
theorem numAt_byte {L : List Int} (h : Bit01 L) {j : Nat} (hj : j < (L.length + 7) / 8) : numAt (packB L) (8 * j) 8 = packAt L j := by
  rw [numAt_pk]
  exact pk_congr (fun i hi => bitAt_packB h (by omega))
/-- A bit more, where a byte begins. -/
theorem packB_new {L : List Int} {x : Int} (hx : x = 0 ∨ x = 1) (h8 : L.length % 8 = 0) : packB (L ++ [x]) = packB L ++ [x] := by
  apply ext_rd (by rw [List.length_append, packB_length, packB_length, List.length_append]; simp; omega)
  intro j hj
  rw [packB_length, List.length_append, List.length_cons, List.length_nil] at hj
  rw [rd_packB (by rw [List.length_append]; simpa using hj)]
  rcases Nat.lt_or_ge j (L.length / 8) with g | g
  · rw [rd_appL (by rw [packB_length]; omega), rd_packB (by omega)]
    unfold packAt
    rw [pk_congr (fun i hi => by rw [rd_appL (by omega)])]
  · have e : j = (packB L).length + 0 := by rw [packB_length]; omega
    rw [e, rd_appR, ← e]
    have e8 : 8 * j = L.length := by rw [e, packB_length]; omega
    unfold packAt
    have key : ∀ i, i < 8 → (rd (L ++ [x]) (8 * j + i)).toNat = if i = 0 then x.toNat else 0 := by
      intro i hi
      rw [e8, rd_appR]
      by_cases h0 : i = 0
      · subst h0; rfl
      · rw [if_neg h0, rd_out (by simp; omega)]; rfl
    rw [pk_congr key]
    rcases hx with rfl | rfl <;> rfl
/-- A bit more, inside a byte. -/
theorem packB_in {L : List Int} {x : Int} (_hL : Bit01 L) (hx : x = 0 ∨ x = 1) (h8 : L.length % 8 ≠ 0) : packB (L ++ [x]) = (packB L).set (L.length / 8) ((packAt L (L.length / 8) : Int) + x * 2 ^ (L.length % 8)) ∧ packAt L (L.length / 8) < 2 ^ (L.length % 8) := by
  have hlow : packAt L (L.length / 8) = pk (fun i => (rd L (8 * (L.length / 8) + i)).toNat) (L.length % 8) := by
    unfold packAt
    have key : ∀ d k, 8 * (L.length / 8) + k ≥ L.length → pk (fun i => (rd L (8 * (L.length / 8) + i)).toNat) (k + d) = pk (fun i => (rd L (8 * (L.length / 8) + i)).toNat) k := by
      intro d k hk
      induction d with
      | zero => rfl
      | succ d ih =>
        show pk _ (k + d) + (rd L (8 * (L.length / 8) + (k + d))).toNat * 2 ^ (k + d) = _
        rw [ih, rd_out (by omega)]
        simp
    have := key (8 - L.length % 8) (L.length % 8) (by omega)
    rwa [show L.length % 8 + (8 - L.length % 8) = 8 from by omega] at this
  refine ⟨?_, by rw [hlow]; exact pk_lt (fun i => by rcases _hL.rd (8 * (L.length / 8) + i) with e | e <;> rw [e] <;> decide) _⟩
  apply ext_rd (by rw [List.length_set, packB_length, packB_length, List.length_append, List.length_cons, List.length_nil]; omega)
  intro j hj
  rw [packB_length, List.length_append, List.length_cons, List.length_nil] at hj
  rw [rd_packB (by rw [List.length_append]; simpa using hj), rd_set (by rw [packB_length]; omega)]
  by_cases g : L.length / 8 = j
  · rw [if_pos g, hlow, g]
    have key : ∀ d, L.length % 8 + 1 + d ≤ 8 → pk (fun i => (rd (L ++ [x]) (8 * j + i)).toNat) (L.length % 8 + 1 + d) = pk (fun i => (rd L (8 * j + i)).toNat) (L.length % 8) + x.toNat * 2 ^ (L.length % 8) := by
      intro d hd
      induction d with
      | zero =>
        show pk _ (L.length % 8) + (rd (L ++ [x]) (8 * j + L.length % 8)).toNat * 2 ^ (L.length % 8) = _
        rw [pk_congr (g := fun i => (rd L (8 * j + i)).toNat) (fun i hi => by rw [rd_appL (by omega)])]
        have e : 8 * j + L.length % 8 = L.length + 0 := by omega
        rw [e, rd_appR]
        rfl
      | succ d ih =>
        show pk _ (L.length % 8 + 1 + d) + (rd (L ++ [x]) (8 * j + (L.length % 8 + 1 + d))).toNat * 2 ^ (L.length % 8 + 1 + d) = _
        rw [ih (by omega), rd_out (by rw [List.length_append, List.length_cons, List.length_nil]; omega)]
        simp
    have h9 := key (7 - L.length % 8) (by omega)
    rw [show L.length % 8 + 1 + (7 - L.length % 8) = 8 from by omega] at h9
    unfold packAt
    rw [h9, Int.natCast_add, Int.natCast_mul, Int.natCast_pow]
    rcases hx with rfl | rfl <;> rfl
  · rw [if_neg g, rd_packB (by omega)]
    unfold packAt
    rw [pk_congr (fun i hi => by rw [rd_appL (by omega)])]
theorem lowOf_bit (x n : Nat) : Bit01 (lowOf x n) := fun y hy => by
  obtain ⟨i, _, rfl⟩ := List.mem_map.1 hy
  have := Nat.mod_lt (x / 2 ^ i) (show 0 < 2 by omega)
  omega
theorem rd_lowOf {x n i : Nat} (h : i < n) : rd (lowOf x n) i = ((x / 2 ^ i % 2 : Nat) : Int) := by
  rw [rd_getElem (by rw [lowOf_length]; exact h)]
  simp [lowOf]
end Go.Proofs.YtendohnkhbgfbaaDoor
