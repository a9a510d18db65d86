/-
  Texts joined into one file: Num, Trim, Ord, Nodes, NodesB, HeapW, OnceD.
-/
import Derived.Test.YtempgkglhgelkaaDoorJCodesPuts7
import Derived.Test.YtempgkglhgelkaaDoorJCodesPuts4
import Derived.Test.YtempgkglhgelkaaDoorJCodesPuts1
import Derived.Laws.Slices
import Derived.Test.YtempgkglhgelkaaDoorJCodesPuts6
import Derived.IntWalk
import Derived.BigQuiet
import Derived.BigRegion
import Derived.Deep.RegionWith
import Derived.Deep.RegionHeld3
import Derived.Deep.AppendLies
import Derived.Deep.RegionLaw
import Derived.Test.YtempgkglhgelkaaDoorJCodesPuts3
/-
  The walks of the reference's Num and order; parts of the bits.
-/
namespace Go.Proofs.YtempgkglhgelkaaDoor
open Go.RowKit

theorem bits_part {w : World} {b o m : Nat} {bs : List Int} {p : Nat} (h : Rd w .u8 (some ⟨b, o, none⟩) m (bitsOf bs p m)) (k j : Nat) (hk : k + j ≤ m) : Rd w .u8 (some ⟨b, o + k, none⟩) j (bitsOf bs (p + k) j) :=
  ⟨by rw [bitsOf_length], fun hj => ⟨b, o + k, rfl, fun i hi => by
    obtain ⟨b', o', e, hc⟩ := h.2 (by omega)
    cases e
    have h9 := hc (k + i) (by omega)
    rw [rd_bitsOf (by omega)] at h9
    rw [rd_bitsOf hi, Nat.add_assoc, Nat.add_assoc]
    exact h9⟩⟩
theorem bits_none {w : World} {A : Option Addr} {bs : List Int} (p : Nat) : Rd w .u8 A 0 (bitsOf bs p 0) := ⟨by rw [bitsOf_length], fun h => by omega⟩
set_option maxHeartbeats 1000000 in
theorem Num_calls (A : Option Addr) (m c p : Nat) (bs : List Int) (w : World) (hA : Rd w .u8 A m (bitsOf bs p m)) (hm : m ≤ 60) :
    Calls Tryd.prog 44 #[.slice A m c] w fun e w' => e = .returned (.int .u64 (numAt bs p m : Nat)) ∧ w = w' := by
  have HA := Lib.hid hA
  clear hA
  go_enter Tryd.func44, Tryd.ntmps44
  go_wp2
  go_loop [3, 4] (fun x i => ∃ k j : Nat, k + j = m ∧ i = .int .i64 ((k : Int) - 1) ∧ x = .int .u64 (numAt bs (p + k) j : Nat)) (fun _ i => (intOf i + 1).toNat)
  case atStart => exact ⟨m, 0, by omega, rfl, rfl⟩
  case round =>
    obtain ⟨k, j, hk, rfl, rfl⟩ := hrel
    by_cases hlt : 0 < k
    · obtain ⟨b, o, rfl, hc⟩ := HA.out.2 (by omega)
      have z := hc (k - 1) (by omega)
      rw [rd_bitsOf (by omega)] at z
      have hx := numAt_lt bs (p + k) j
      have hpow : (2 : Nat) ^ j ≤ 2 ^ 60 := Nat.pow_le_pow_right (by omega) (by omega)
      have hp60 : (2 : Nat) ^ 60 = 1152921504606846976 := by decide
      have hbt := bitAt_le bs (p + (k - 1))
      have hcons := numAt_cons bs (p + (k - 1)) j
      rw [show p + (k - 1) + 1 = p + k from by omega] at hcons
      obtain ⟨X, hX⟩ : ∃ X, X = numAt bs (p + k) j := ⟨_, rfl⟩
      obtain ⟨Y, hY⟩ : ∃ Y, Y = bitAt bs (p + (k - 1)) := ⟨_, rfl⟩
      rw [← hX, ← hY] at hcons
      rw [← hX] at hx ⊢
      rw [← hY] at z hbt
      have Hcons := Lib.hid hcons
      have hX2 : X ≤ 1152921504606846976 := by omega
      have s1 : ((k : Int) - 1).toNat = k - 1 := by omega
      have s2 : (0 : Int) ≤ (k : Int) - 1 := by omega
      clear hc hcons hX hY hx hpow hp60
      go_wp2
      go_round
      case rel => exact ⟨k - 1, j + 1, by omega, by rw [show (((k - 1 : Nat) : Int)) = (k : Int) - 1 from by omega], by rw [Hcons.out]; go_num⟩
      case measure => simp [intOf]; omega
    · obtain rfl : k = 0 := by omega
      obtain rfl : j = m := by omega
      go_wp2
      go_ret
      exact ⟨rfl, rfl⟩
set_option maxHeartbeats 1000000 in
set_option maxRecDepth 100000 in
theorem order_calls (w : World) :
    Calls Tryd.prog 45 #[] w fun e w' => ∃ g, e = .returned (.slice (some ⟨g, 0, none⟩) 19 19) ∧ (∀ j, j < 19 → w'.cell? ⟨g, j, none⟩ = some (.int .i64 (ordL.getD j 0 : Nat))) ∧ Below w.heap.size w w' := by
  go_enter Tryd.func45, Tryd.ntmps45
  go_wp2
  go_ret
  refine ⟨w.heap.size, rfl, fun j hj => ?_, (Below.refl _ _).alloc (Nat.le_refl _) _⟩
  have key : ∀ j : Nat, j < 19 → (#[Value.int .i64 16, .int .i64 17, .int .i64 18, .int .i64 0, .int .i64 8, .int .i64 7, .int .i64 9, .int .i64 6, .int .i64 10, .int .i64 5, .int .i64 11, .int .i64 4, .int .i64 12, .int .i64 3, .int .i64 13, .int .i64 2, .int .i64 14, .int .i64 1, .int .i64 15].toList)[j]? = some (Value.int .i64 (ordL.getD j 0 : Nat)) := by
    intro j hj
    have : j = 0 ∨ j = 1 ∨ j = 2 ∨ j = 3 ∨ j = 4 ∨ j = 5 ∨ j = 6 ∨ j = 7 ∨ j = 8 ∨ j = 9 ∨ j = 10 ∨ j = 11 ∨ j = 12 ∨ j = 13 ∨ j = 14 ∨ j = 15 ∨ j = 16 ∨ j = 17 ∨ j = 18 := by omega
    rcases this with rfl | rfl | rfl | rfl | rfl | rfl | rfl | rfl | rfl | rfl | rfl | rfl | rfl | rfl | rfl | rfl | rfl | rfl | rfl <;> rfl
  have h := news_at w _ 3 j _ (key j hj)
  rw [addr_add, Nat.zero_add] at h
  exact h
end Go.Proofs.YtempgkglhgelkaaDoor
/-
  The walks of trim: the program's, and the reference's.
-/
namespace Go.Proofs.YtempgkglhgelkaaDoor
open Go.RowKit

set_option maxHeartbeats 1000000 in
set_option maxRecDepth 100000 in
theorem trim_calls (A : Option Addr) (n c least : Nat) (xs : List Int) (w : World) (hR : Rd w .i64 A n xs) (h1 : 1 ≤ least) (hl : least ≤ n) (hn : n ≤ 1000000) (hc : n ≤ c) :
    Calls Tryd.prog 49 #[.slice A n c, .int .i64 least] w fun e w' => e = .returned (.slice A (tn xs least (n - least)) c) ∧ w = w' := by
  obtain ⟨b, o, rfl, hcell⟩ := hR.2 (by omega)
  have HC := Lib.hid hcell
  clear hcell
  go_enter Tryd.func49, Tryd.ntmps49
  go_wp2
  go_loop [5] (fun i => ∃ d : Nat, d ≤ n - least ∧ i = .int .i64 ((least + d : Nat) : Int) ∧ Hid (tn xs least (n - least) = tn xs least d)) (fun i => (intOf i).toNat)
  case atStart => exact ⟨n - least, by omega, by rw [show least + (n - least) = n from by omega], rfl⟩
  case round =>
    obtain ⟨d, hd, rfl, HT⟩ := hrel
    rcases Nat.eq_zero_or_pos d with h0 | h0
    · subst h0
      have HT2 := HT.out
      rw [show tn xs least 0 = least from rfl] at HT2
      have HT3 := Lib.hid HT2
      clear HT2
      rw [Nat.add_zero]
      go_wp2
      go_ret
      exact ⟨by rw [HT3.out]; rfl, rfl⟩
    · obtain ⟨e, rfl⟩ : ∃ e, d = e + 1 := ⟨d - 1, by omega⟩
      have z := HC.out (least + e) (by omega)
      obtain ⟨y, hy⟩ : ∃ y, rd xs (least + e) = y := ⟨_, rfl⟩
      rw [hy] at z
      have HT2 := HT.out
      have hu : tn xs least (e + 1) = if rd xs (least + e) = 0 then tn xs least e else least + e + 1 := rfl
      rw [hu, hy] at HT2
      obtain ⟨q, hq⟩ : ∃ q, q = least + e := ⟨_, rfl⟩
      rw [← hq] at z HT2
      rw [show least + (e + 1) = q + 1 from by omega]
      have hql : least ≤ q := by omega
      have hqn : q < n := by omega
      have s1 : (((q + 1 : Nat) : Int) - 1).toNat = q := by omega
      have s2 : (((q + 1 : Nat) : Int) - 1) = (q : Int) := by omega
      by_cases hy0 : y = 0
      · rw [if_pos hy0] at HT2
        have HT3 := Lib.hid HT2
        have Hq := Lib.hid hq
        subst hy0
        clear HT2 hy hu hq
        go_wp2
        go_round
        case rel => exact ⟨e, by omega, by rw [← Hq.out], HT3.out⟩
        case measure => simp [intOf]
      · rw [if_neg hy0] at HT2
        have HT3 := Lib.hid HT2
        have d0 : (y == 0) = false := by simpa using hy0
        clear HT2 hy hu hq
        go_wp2
        go_ret
        exact ⟨by rw [HT3.out]; rfl, rfl⟩
set_option maxHeartbeats 1000000 in
set_option maxRecDepth 100000 in
theorem refTrim_calls (A : Option Addr) (n c least : Nat) (xs : List Int) (w : World) (hR : Rd w .i64 A n xs) (h1 : 1 ≤ least) (hl : least ≤ n) (hn : n ≤ 1000000) (hc : n ≤ c) :
    Calls Tryd.prog 54 #[.slice A n c, .int .i64 least] w fun e w' => e = .returned (.slice A (tn xs least (n - least)) c) ∧ w = w' := by
  obtain ⟨b, o, rfl, hcell⟩ := hR.2 (by omega)
  have HC := Lib.hid hcell
  clear hcell
  go_enter Tryd.func54, Tryd.ntmps54
  go_wp2
  go_loop [5, 6] (fun m i => ∃ d : Nat, d ≤ n - least ∧ i = .int .i64 ((least + d : Nat) : Int) ∧ m = .int .i64 (tn xs least d : Nat)) (fun _ i => n - (intOf i).toNat)
  case atStart => exact ⟨0, by omega, rfl, rfl⟩
  case round =>
    obtain ⟨d, hd, rfl, rfl⟩ := hrel
    have ht := tn_rng xs least d
    obtain ⟨q, hq⟩ : ∃ q, q = least + d := ⟨_, rfl⟩
    by_cases hlt : d < n - least
    · have z := HC.out (least + d) (by omega)
      obtain ⟨y, hy⟩ : ∃ y, rd xs (least + d) = y := ⟨_, rfl⟩
      rw [hy] at z
      have hu : tn xs least (d + 1) = if rd xs (least + d) = 0 then tn xs least d else least + d + 1 := rfl
      rw [hy, ← hq] at hu
      rw [← hq] at z ⊢
      have hqn : q < n := by omega
      have Hq := Lib.hid hq
      clear hq hy
      by_cases hy0 : y = 0
      · rw [if_pos hy0] at hu
        have Hu := Lib.hid hu
        subst hy0
        clear hu
        go_wp2
        go_round
        case rel => exact ⟨d + 1, by omega, by rw [show least + (d + 1) = q + 1 from by have := Hq.out; omega]; go_num, by rw [Hu.out]⟩
        case measure => simp [intOf]; omega
      · rw [if_neg hy0] at hu
        have Hu := Lib.hid hu
        have d0 : (y == 0) = false := by simpa using hy0
        clear hu
        go_wp2
        go_round
        case rel => exact ⟨d + 1, by omega, by rw [show least + (d + 1) = q + 1 from by have := Hq.out; omega]; go_num, by rw [Hu.out]; go_num⟩
        case measure => simp [intOf]; omega
    · obtain rfl : d = n - least := by omega
      have e1 : least + (n - least) = n := by omega
      rw [e1]
      obtain ⟨m, hm⟩ : ∃ m, m = tn xs least (n - least) := ⟨_, rfl⟩
      rw [← hm] at ht ⊢
      have hmn : m ≤ n := by omega
      clear e1 hq ht
      have Hm := Lib.hid hm
      clear hm
      go_wp2
      go_ret
      exact ⟨by first | rfl | (rw [← Hm.out]; rfl) | (rw [Hm.out]; rfl), rfl⟩
end Go.Proofs.YtempgkglhgelkaaDoor
/-
  A slice of the laid table of the order.
-/
namespace Go.Proofs.YtempgkglhgelkaaDoor
open Go.RowKit

theorem ord_slice (W : World) (k : IntKind) (h : Int) (m : Nat) (e : h = m) (hm : m ≤ 19) : (Instr.sliceAt 87 (.pointer (some ⟨2, 0, none⟩)) none (some (.int k h)) none).run Tryd.prog W = .ok (.slice (some ⟨2, 0, none⟩) m 19) W := by
  have ha : Tryd.prog.arrayLen 87 = 19 := by simp [Program.arrayLen, Tryd.underlying87]
  have hu : Tryd.prog.underlying 87 = some (.array (Tryd.prog.arrayLen 87) (Tryd.prog.elem 87)) := by simp [Program.arrayLen, Program.elem, Tryd.underlying87]
  subst e
  rw [run_sliceAt_array_h W _ _ hu k (m : Int) (by omega) (by rw [ha]; omega), ha]
  simp [Program.elem, Tryd.underlying87, go_sem]
end Go.Proofs.YtempgkglhgelkaaDoor
/-
  The walks of the methods of *nodes: Len, Less, Swap, Push, Pop.
-/
namespace Go.Proofs.YtempgkglhgelkaaDoor
open Go.RowKit

/-- The nodes: n of them, four numbers each; and who waits. -/
structure NodesAt (w : World) (h : Nat) (va vw : Value) (n : Nat) (flat wait : List Int) : Prop where
  at' : w.heap[h]? = some (.cells #[va, vw] 121 (0, 0))
  all : w.ownsRow 0 123 4 va n (ints .i64 flat)
  wait : w.ownsRow 0 3 1 vw wait.length (ints .i64 wait)
theorem NodesAt.lt {w : World} {h n : Nat} {va vw : Value} {flat wait : List Int} (H : NodesAt w h va vw n flat wait) : h < w.heap.size := (Array.getElem?_eq_some_iff.1 H.at').1
theorem NodesAt.c0 {w : World} {h n : Nat} {va vw : Value} {flat wait : List Int} (H : NodesAt w h va vw n flat wait) : w.cell? ⟨h, 0, none⟩ = some va := by rw [cell_of_row w h 0 _ _ (0, 0) H.at']; rfl
theorem NodesAt.c1 {w : World} {h n : Nat} {va vw : Value} {flat wait : List Int} (H : NodesAt w h va vw n flat wait) : w.cell? ⟨h, 1, none⟩ = some vw := by rw [cell_of_row w h 1 _ _ (0, 0) H.at']; rfl
theorem NodesAt.frozen {w : World} {h n : Nat} {va vw : Value} {flat wait : List Int} (H : NodesAt w h va vw n flat wait) (j : Nat) : w.frozen? ⟨h, j, none⟩ = false := frozen_of_row w h j _ _ H.at'
theorem NodesAt.aw {w : World} {h n : Nat} {va vw : Value} {flat wait : List Int} (H : NodesAt w h va vw n flat wait) : Apart va.ownBlock vw.ownBlock := own_apart2 (by decide) H.all H.wait
theorem NodesAt.ah {w : World} {h n : Nat} {va vw : Value} {flat wait : List Int} (H : NodesAt w h va vw n flat wait) : Apart va.ownBlock (some h) := own_apart H.at' (by decide) H.all
theorem NodesAt.wh {w : World} {h n : Nat} {va vw : Value} {flat wait : List Int} (H : NodesAt w h va vw n flat wait) : Apart vw.ownBlock (some h) := own_apart H.at' (by decide) H.wait
theorem NodesAt.fr {w w' : World} {h n : Nat} {va vw : Value} {flat wait : List Int} {S : List (Option Nat)} (H : NodesAt w h va vw n flat wait) (hf : Fr w w' S) (hS : ∀ o ∈ S, Apart va.ownBlock o ∧ Apart vw.ownBlock o ∧ o ≠ some h) : NodesAt w' h va vw n flat wait :=
  ⟨(hf.block h H.lt (fun o ho => (hS o ho).2.2)).trans H.at', own_fr H.all hf (fun o ho => (hS o ho).1), own_fr H.wait hf (fun o ho => (hS o ho).2.1)⟩
theorem NodesAt.keep {w w' : World} {h n : Nat} {va vw : Value} {flat wait : List Int} (H : NodesAt w h va vw n flat wait) (hb : Below w.heap.size w w') : NodesAt w' h va vw n flat wait :=
  H.fr (Fr.ofBelow hb []) (fun o ho => by simp at ho)
/-- Is node x less than node y: by weight, then by order. -/
def ltF (flat : List Int) (x y : Int) : Bool := decide (rd flat (x.toNat * 4) < rd flat (y.toNat * 4)) || (rd flat (x.toNat * 4) == rd flat (y.toNat * 4) && decide (rd flat (x.toNat * 4 + 1) < rd flat (y.toNat * 4 + 1)))

set_option maxHeartbeats 1000000 in
theorem Len_calls (h n : Nat) (va vw : Value) (flat wait : List Int) (w : World) (H : NodesAt w h va vw n flat wait) :
    Calls Tryd.prog 68 #[.pointer (some ⟨h, 0, none⟩)] w fun e w' => e = .returned (.int .i64 wait.length) ∧ w = w' := by
  have c1 := H.c1
  obtain ⟨A, c, rfl⟩ := own_slice H.wait
  clear H
  go_enter Tryd.func68, Tryd.ntmps68
  go_wp2
  go_ret
  exact ⟨rfl, rfl⟩
set_option maxHeartbeats 1000000 in
theorem Less_calls (h n i k : Nat) (va vw : Value) (flat wait : List Int) (w : World) (H : NodesAt w h va vw n flat wait) (hi : i < wait.length) (hk : k < wait.length) (hx : ∀ j, j < wait.length → 0 ≤ rd wait j ∧ rd wait j < n) (hn : n ≤ 1000000) (hm : wait.length ≤ 1000000) :
    Calls Tryd.prog 92 #[.pointer (some ⟨h, 0, none⟩), .int .i64 i, .int .i64 k] w fun e w' => e = .returned (.bool (ltF flat (rd wait i) (rd wait k))) ∧ Below w.heap.size w w' := by
  have c0 := H.c0
  have c1 := H.c1
  have hfl : flat.length = n * 4 := by have := H.all.1; rwa [ints_length] at this
  obtain ⟨x, hx1⟩ : ∃ x : Nat, rd wait i = x := ⟨(rd wait i).toNat, by have := hx i hi; omega⟩
  obtain ⟨y, hy1⟩ : ∃ y : Nat, rd wait k = y := ⟨(rd wait k).toNat, by have := hx k hk; omega⟩
  have hxn : x < n := by have := hx i hi; omega
  have hyn : y < n := by have := hx k hk; omega
  obtain ⟨gw, cw, rfl, _, _, hcw, hcell, _⟩ := own_form H.wait (by omega)
  obtain ⟨ga, ca, rfl, _, _, hca, hacell, _⟩ := own_form H.all (by omega)
  have wi := hcell i _ (ints_get hi)
  have wk := hcell k _ (ints_get hk)
  rw [hx1] at wi
  rw [hy1] at wk
  have x0 := hacell (x * 4) _ (ints_get (by omega))
  have x1 := hacell (x * 4 + 1) _ (ints_get (by omega))
  have x2 := hacell (x * 4 + 2) _ (ints_get (by omega))
  have x3 := hacell (x * 4 + 3) _ (ints_get (by omega))
  have y0 := hacell (y * 4) _ (ints_get (by omega))
  have y1 := hacell (y * 4 + 1) _ (ints_get (by omega))
  have y2 := hacell (y * 4 + 2) _ (ints_get (by omega))
  have y3 := hacell (y * 4 + 3) _ (ints_get (by omega))
  have hres : ltF flat (rd wait i) (rd wait k) = (decide (rd flat (x * 4) < rd flat (y * 4)) || (rd flat (x * 4) == rd flat (y * 4) && decide (rd flat (x * 4 + 1) < rd flat (y * 4 + 1)))) := by
    rw [hx1, hy1]
    rfl
  rw [hres]
  clear hres
  obtain ⟨wx, e1⟩ : ∃ v, rd flat (x * 4) = v := ⟨_, rfl⟩
  obtain ⟨wy, e2⟩ : ∃ v, rd flat (y * 4) = v := ⟨_, rfl⟩
  obtain ⟨ox, e3⟩ : ∃ v, rd flat (x * 4 + 1) = v := ⟨_, rfl⟩
  obtain ⟨oy, e4⟩ : ∃ v, rd flat (y * 4 + 1) = v := ⟨_, rfl⟩
  rw [e1] at x0
  rw [e2] at y0
  rw [e3] at x1
  rw [e4] at y1
  rw [e1, e2, e3, e4]
  have L0 := Later.refl w
  have C0 := Later.cell c0
  have C1 := Later.cell c1
  have Wi := Later.cell wi
  have Wk := Later.cell wk
  have X0 := Later.cell x0
  have X1 := Later.cell x1
  have X2 := Later.cell x2
  have X3 := Later.cell x3
  have Y0 := Later.cell y0
  have Y1 := Later.cell y1
  have Y2 := Later.cell y2
  have Y3 := Later.cell y3
  clear H hcell hacell hx hx1 hy1 hfl e1 e2 e3 e4 c0 c1 wi wk x0 x1 x2 x3 y0 y1 y2 y3
  go_enter Tryd.func92, Tryd.ntmps92
  go_wp2
  go_region_held3 (fun W => Later w W ∧ W.cell? ⟨h, 0, none⟩ = some (.slice (some ⟨ga, 0, none⟩) n ca) ∧ W.cell? ⟨h, 1, none⟩ = some (.slice (some ⟨gw, 0, none⟩) wait.length cw) ∧ W.cell? ⟨gw, i, none⟩ = some (.int .i64 x) ∧ W.cell? ⟨gw, k, none⟩ = some (.int .i64 y) ∧
    W.cell? ⟨ga, x * 4, none⟩ = some (.int .i64 wx) ∧ W.cell? ⟨ga, x * 4 + 1, none⟩ = some (.int .i64 ox) ∧ W.cell? ⟨ga, x * 4 + 2, none⟩ = some (.int .i64 (rd flat (x * 4 + 2))) ∧ W.cell? ⟨ga, x * 4 + 3, none⟩ = some (.int .i64 (rd flat (x * 4 + 3))) ∧
    W.cell? ⟨ga, y * 4, none⟩ = some (.int .i64 wy) ∧ W.cell? ⟨ga, y * 4 + 1, none⟩ = some (.int .i64 oy) ∧ W.cell? ⟨ga, y * 4 + 2, none⟩ = some (.int .i64 (rd flat (y * 4 + 2))) ∧ W.cell? ⟨ga, y * 4 + 3, none⟩ = some (.int .i64 (rd flat (y * 4 + 3))))
    ((refine (fun L => ⟨L, C0 _ L, C1 _ L, Wi _ L, Wk _ L, X0 _ L, X1 _ L, X2 _ L, X3 _ L, Y0 _ L, Y1 _ L, Y2 _ L, Y3 _ L⟩) ?_; repeat (first | exact L0 | refine Later.drew ?_ | refine Later.new _ ?_ | refine Later.made _ _ (by first | exact Nat.le_refl _ | (simp; done) | (simp; omega)) ?_))) (fail)
  all_goals
    rename_i hh
    clear hh C0 C1 Wi Wk X0 X1 X2 X3 Y0 Y1 Y2 Y3 L0
    go_wp2
    all_goals
      go_ret
      refine ⟨?_, ((Below.refl _ _).alloc (Nat.le_refl _) _).alloc (by simp) _ |>.drew⟩
      first
      | rfl
      | (have g : wx = wy := by assumption
         subst g
         simp)
      | (have g : ¬ wx = wy := by assumption
         simp [g])
end Go.Proofs.YtempgkglhgelkaaDoor
/-
  The walks of the methods of *nodes that write: Swap, Push, Pop.
-/
namespace Go.Proofs.YtempgkglhgelkaaDoor
open Go.RowKit

theorem NodesAt.put {w : World} {h n g c : Nat} {va : Value} {flat wait : List Int} (H : NodesAt w h va (.slice (some ⟨g, 0, none⟩) wait.length c) n flat wait) (j : Nat) (v : Int) :
    NodesAt (w.setCell ⟨g, j, none⟩ (.int .i64 v)) h va (.slice (some ⟨g, 0, none⟩) wait.length c) n flat (wait.set j v) := by
  have hne : h ≠ g := fun e => H.wh g rfl (by rw [e])
  refine ⟨(heap_setCell_other w ⟨g, j, none⟩ h _ hne).trans H.at', own_fr H.all ((Fr.refl w [some g]).set ⟨g, j, none⟩ _ (.inl (by simp))) (fun o ho => ?_), ?_⟩
  · simp at ho
    subst ho
    exact H.aw
  · rw [List.length_set, ints_set]
    exact own_store H.wait j _
theorem kept_new_f {w : World} {a : Addr} (h : w.frozen? a = false) (hlt : a.block < w.heap.size) (o : Obj) : (w.alloc o).frozen? a = false := (World.frozen?_of_block (Below.heap_alloc _ _ _ hlt)).trans h
set_option maxHeartbeats 1000000 in
theorem Swap_calls (h n i k : Nat) (va vw : Value) (flat wait : List Int) (w : World) (H : NodesAt w h va vw n flat wait) (hi : i < wait.length) (hk : k < wait.length) :
    Calls Tryd.prog 95 #[.pointer (some ⟨h, 0, none⟩), .int .i64 i, .int .i64 k] w fun e w' => e = .returned (.tuple #[]) ∧ NodesAt w' h va vw n flat (swp wait i k) ∧ Fr w w' [vw.ownBlock] ∧ w'.heap.size = w.heap.size := by
  have c1 := H.c1
  obtain ⟨gw, cw, rfl, _, _, hcw, hcell, hfz⟩ := own_form H.wait (by omega)
  have wi := hcell i _ (ints_get hi)
  have wk := hcell k _ (ints_get hk)
  have fi := hfz i
  have fk := hfz k
  have hne := H.wh
  have hgh : ¬ gw = h := fun e => hne gw rfl (by rw [e])
  have hgh2 : ¬ h = gw := fun e => hgh e.symm
  have hset : ∀ v, ∃ u, (w.setCell ⟨gw, i, none⟩ v).cell? ⟨gw, k, none⟩ = some u := by
    intro v
    have ho := own_store H.wait i v
    have := ho.cellAt k (by omega)
    exact ⟨_, this.trans (List.getElem?_eq_getElem (by rw [List.length_set, ints_length]; exact hk))⟩
  obtain ⟨u, hu⟩ := hset (.int .i64 (rd wait k))
  have HH := Lib.hid H
  clear H hcell hfz hne hset
  go_enter Tryd.func95, Tryd.ntmps95
  go_region
  go_wp2
  go_end0
  have h1 := (HH.out.put i (rd wait k))
  have h2 := NodesAt.put (wait := wait.set i (rd wait k)) (by rw [List.length_set]; exact h1) k (rd wait i)
  refine ⟨rfl, ?_, ((Fr.refl w _).set _ _ (.inl (by simp [Value.ownBlock]))).set _ _ (.inl (by simp [Value.ownBlock])) |>.drew, by simp⟩
  rw [List.length_set] at h2
  exact h2.keep (Below.refl _ _).drew
set_option maxHeartbeats 1000000 in
theorem NPop_calls (h n : Nat) (va vw : Value) (flat wait : List Int) (w : World) (H : NodesAt w h va vw n flat wait) (hm : 0 < wait.length) :
    Calls Tryd.prog 93 #[.pointer (some ⟨h, 0, none⟩)] w fun e w' => e = .returned (.iface 3 (.int .i64 (rd wait (wait.length - 1)))) ∧ ∃ vw', NodesAt w' h va vw' n flat (wait.take (wait.length - 1)) ∧ vw'.ownBlock = vw.ownBlock ∧ Fr w w' [some h] ∧ w'.heap.size = w.heap.size := by
  have c1 := H.c1
  have f1 := H.frozen 1
  obtain ⟨gw, cw, rfl, _, _, hcw, hcell, hfz⟩ := own_form H.wait (by omega)
  have wl := hcell (wait.length - 1) _ (ints_get (by omega))
  obtain ⟨m, hm2⟩ : ∃ m, wait.length = m + 1 := ⟨wait.length - 1, by omega⟩
  rw [hm2] at c1 wl
  rw [hm2, Nat.add_sub_cancel]
  rw [Nat.add_sub_cancel] at wl
  have hbig : m + 1 ≤ maxLen := by
    rcases H.wait.2 with ⟨h1, _⟩ | ⟨g, cap, cur, h1, _, _, h3, h4, _⟩
    · cases h1
    · rw [hm2] at h3; omega
  unfold maxLen at hbig
  have Hm2 := Lib.hid hm2
  have HH := Lib.hid H
  clear H hcell hfz hm2
  have hcm : m ≤ cw := by have := Hm2.out; omega
  go_enter Tryd.func93, Tryd.ntmps93
  go_wp2
  go_ret
  refine ⟨rfl, .slice (some ⟨gw, 0, none⟩) m cw, ⟨?_, ?_, ?_⟩, rfl, (Fr.refl w _).set _ _ (.inl (by simp)), by simp⟩
  · exact heap_setCell_same w h 1 _ _ _ HH.out.at'
  · refine own_fr HH.out.all ((Fr.refl w [some h]).set ⟨h, 1, none⟩ _ (.inl (by simp))) (fun o ho => ?_)
    simp at ho
    subst ho
    exact HH.out.ah
  · have h1 := own_front HH.out.wait m (by have := Hm2.out; omega)
    rw [show (wait.take m).length = m from by rw [List.length_take]; have := Hm2.out; omega]
    rw [show (ints .i64 wait).take m = ints .i64 (wait.take m) from by simp [ints, List.map_take]] at h1
    refine own_fr h1 ((Fr.refl w [some h]).set ⟨h, 1, none⟩ _ (.inl (by simp))) (fun o ho => ?_)
    simp at ho
    subst ho
    exact HH.out.wh
set_option maxHeartbeats 1000000 in
theorem NPush_calls (h n : Nat) (va vw : Value) (flat wait : List Int) (x : Int) (w : World) (H : NodesAt w h va vw n flat wait) (hm : wait.length ≤ 1000000) :
    Calls Tryd.prog 94 #[.pointer (some ⟨h, 0, none⟩), .iface 3 (.int .i64 x)] w fun e w' => e = .returned (.tuple #[]) ∧ ∃ vw', NodesAt w' h va vw' n flat (wait ++ [x]) ∧ (vw'.ownBlock = vw.ownBlock ∨ ∀ k, vw'.ownBlock = some k → w.heap.size ≤ k) ∧ Fr w w' [some h, vw.ownBlock] := by
  have c1 := H.c1
  have f1 := H.frozen 1
  have HH := Lib.hid H
  obtain ⟨A, c, rfl⟩ := own_slice H.wait
  have ta : ∀ W : World, Sem.run Tryd.prog (Instr.typeAssert (.iface 3 (.int .i64 x)) 20 3 false) W = .ok (.int .i64 x) W := fun W => by kernel_rfl
  obtain ⟨i0, hi0, hz0, hz1, hz2⟩ := info_parts elIntN.info
  have hh1 : h < w.heap.size := H.lt
  have hne := H.wh
  have Hne := Lib.hid hne
  clear H hne
  go_enter Tryd.func94, Tryd.ntmps94
  go_region_law
    ((refine step_append_lies _ (by rfl) _ _ _ (by rfl) 0 3 i0 (.int .i64 0) 1 8 elIntN.und hi0 hz0 hz1 hz2 rfl (by omega) (.slice A wait.length c) wait.length _ (by rfl) (HH.out.wait.alloc _) ⟨w.heap.size, 0, none⟩ 1 1 [.int .i64 x] (by rfl) rfl (news_at _ _ _) (by simp [Value.oneCell']) (by omega) (by unfold maxLen; omega) (by omega) (Nat.zero_le _) (w.heap.size + 1) (by simp) ?_; intro g cap w1 hown1 hgrow hat hlt; have q1 := hgrow.cell (kept_new c1 _) (fun e => Hne.out h e.symm rfl); have q2 := (hgrow.frozen_far ⟨h, 1, none⟩ (by simp; omega) (fun e => Hne.out h e.symm rfl)).trans (kept_new_f f1 hh1 _)))
  all_goals
    go_end0
    have hW1 : w1.heap[h]? = some (.cells #[va, .slice A wait.length c] 121 (0, 0)) := (hgrow.block h (by simp; omega) (fun e => Hne.out h e.symm rfl)).trans ((Below.heap_alloc _ _ _ hh1).trans HH.out.at')
    have FA : Fr w w1 [(Value.slice A wait.length c).ownBlock] := ((Fr.refl w _).alloc _ |>.drew).trans (Fr.ofGrown hgrow) (fun o ho => .inl ho)
    have FB : Fr w (w1.setCell ⟨h, 1, none⟩ (Value.slice (some ⟨g, 0, none⟩) (wait.length + 1) cap)) [some h, (Value.slice A wait.length c).ownBlock] := (FA.mono (fun o ho => by simp at ho ⊢; exact .inr ho)).set _ _ (.inl (by simp))
    refine ⟨rfl, .slice (some ⟨g, 0, none⟩) (wait.length + 1) cap, ⟨heap_setCell_same w1 h 1 _ _ _ hW1, ?_, ?_⟩, ?_, FB⟩
    · refine own_fr HH.out.all FB (fun o ho => ?_)
      simp only [List.mem_cons, List.not_mem_nil, or_false] at ho
      rcases ho with rfl | rfl
      · exact HH.out.ah
      · exact HH.out.aw
    · have h9 := own_fr hown1 ((Fr.refl w1 [some h]).set ⟨h, 1, none⟩ (Value.slice (some ⟨g, 0, none⟩) (wait.length + 1) cap) (.inl (by simp))) (fun o ho => by
        simp only [List.mem_cons, List.not_mem_nil, or_false] at ho
        subst ho
        exact own_apart hW1 (by decide) hown1)
      rw [List.length_append, ints_append]
      exact h9
    · rcases hat with h8 | h8
      · exact .inl h8.symm
      · refine .inr (fun k hk => ?_)
        simp [Value.ownBlock] at hk
        omega
end Go.Proofs.YtempgkglhgelkaaDoor
/-
  The walks of container/heap over *nodes: down, up, Init, Pop, Push.
-/
namespace Go.Proofs.YtempgkglhgelkaaDoor
open Go.RowKit

theorem ltF_ord (flat : List Int) : Ord (ltF flat) := by
  refine ⟨fun x y z h k => ?_, fun x y h => ?_⟩
  · simp only [ltF, Bool.or_eq_false_iff, Bool.and_eq_false_iff, decide_eq_false_iff_not, beq_eq_false_iff_ne] at *
    omega
  · simp only [ltF, Bool.or_eq_false_iff, Bool.and_eq_false_iff, decide_eq_false_iff_not, beq_eq_false_iff_ne, Bool.or_eq_true, Bool.and_eq_true, decide_eq_true_eq, beq_iff_eq] at *
    omega
abbrev nv (h : Nat) : Value := .iface 118 (.pointer (some ⟨h, 0, none⟩))
theorem m_less (k : Nat) (a : Addr) (w : World) : (method (k + 1) 118 (.pointer (some a)) "Less").run Tryd.prog w = .ok (92, .pointer (some a)) w := by kernel_rfl
theorem m_swap (k : Nat) (a : Addr) (w : World) : (method (k + 1) 118 (.pointer (some a)) "Swap").run Tryd.prog w = .ok (95, .pointer (some a)) w := by kernel_rfl
theorem m_len (k : Nat) (a : Addr) (w : World) : (method (k + 1) 118 (.pointer (some a)) "Len").run Tryd.prog w = .ok (68, .pointer (some a)) w := by kernel_rfl
theorem m_push (k : Nat) (a : Addr) (w : World) : (method (k + 1) 118 (.pointer (some a)) "Push").run Tryd.prog w = .ok (94, .pointer (some a)) w := by kernel_rfl
theorem m_pop (k : Nat) (a : Addr) (w : World) : (method (k + 1) 118 (.pointer (some a)) "Pop").run Tryd.prog w = .ok (93, .pointer (some a)) w := by kernel_rfl
theorem Less_at (h n i k : Nat) (va vw : Value) (flat wait : List Int) (xi xk : Int) (w : World) (H : NodesAt w h va vw n flat wait) (hi : i < wait.length) (hk : k < wait.length) (hx : ∀ j, j < wait.length → 0 ≤ rd wait j ∧ rd wait j < n) (hn : n ≤ 1000000) (hm : wait.length ≤ 1000000) (ei : xi = i) (ek : xk = k) :
    Calls Tryd.prog 92 #[.pointer (some ⟨h, 0, none⟩), .int .i64 xi, .int .i64 xk] w fun e w' => e = .returned (.bool (ltF flat (rd wait i) (rd wait k))) ∧ Below w.heap.size w w' := by
  subst ei ek
  exact Less_calls h n i k va vw flat wait w H hi hk hx hn hm
theorem Swap_at (h n i k : Nat) (va vw : Value) (flat wait : List Int) (xi xk : Int) (w : World) (H : NodesAt w h va vw n flat wait) (hi : i < wait.length) (hk : k < wait.length) (ei : xi = i) (ek : xk = k) :
    Calls Tryd.prog 95 #[.pointer (some ⟨h, 0, none⟩), .int .i64 xi, .int .i64 xk] w fun e w' => e = .returned (.tuple #[]) ∧ NodesAt w' h va vw n flat (swp wait i k) ∧ Fr w w' [vw.ownBlock] ∧ w'.heap.size = w.heap.size := by
  subst ei ek
  exact Swap_calls h n i k va vw flat wait w H hi hk
theorem swp_range {l : List Int} {i k m : Nat} {n : Int} (hi : i < l.length) (hk : k < l.length) (hx : ∀ j, j < m → 0 ≤ rd l j ∧ rd l j < n) (hi2 : i < m := by omega) (hk2 : k < m := by omega) : ∀ j, j < m → 0 ≤ rd (swp l i k) j ∧ rd (swp l i k) j < n := by
  intro j hj
  rw [rd_swp hi hk]
  split
  · exact hx i hi2
  · split
    · exact hx k hk2
    · exact hx j hj
def SomeBool (e : Ending) : Prop := ∃ b, e = .returned (.bool b)
theorem Fr.sub {w w1 w2 : World} {S T : List (Option Nat)} (h : Fr w w1 S) (k : Fr w1 w2 T) (hT : ∀ o ∈ T, o ∈ S) : Fr w w2 S := h.trans k (fun o ho => .inl (hT o ho))
set_option maxHeartbeats 1000000 in
theorem down_calls (h n i m : Nat) (va vw : Value) (flat wait : List Int) (w : World) (H : NodesAt w h va vw n flat wait) (hm : m ≤ wait.length) (hi : i ≤ m) (hx : ∀ j, j < wait.length → 0 ≤ rd wait j ∧ rd wait j < n) (hn : n ≤ 1000000) (hl : wait.length ≤ 1000000) (f : Nat) (hf : m ≤ i + f) :
    Calls Tryd.prog 72 #[nv h, .int .i64 i, .int .i64 m] w fun e w' => SomeBool e ∧ NodesAt w' h va vw n flat (downM (ltF flat) f wait i m) ∧ Fr w w' [vw.ownBlock] := by
  have HH := Lib.hid H
  clear H
  obtain ⟨R, hR⟩ : ∃ R, downM (ltF flat) f wait i m = R := ⟨_, rfl⟩
  rw [hR]
  have HR := Lib.hid hR
  clear hR
  have ml := m_less
  have ms := m_swap
  go_enter Tryd.func72, Tryd.ntmps72
  go_wp2
  go_loopw [7, 9] (fun x _ wr => ∃ (i : Nat) (f' : Nat) (l : List Int), i ≤ m ∧ m ≤ i + f' ∧ x = .int .i64 i ∧ NodesAt wr h va vw n flat l ∧ l.length = wait.length ∧ Hid (∀ j, j < wait.length → 0 ≤ rd l j ∧ rd l j < n) ∧ Hid (downM (ltF flat) f' l i m = R) ∧ Hid (Fr w wr [vw.ownBlock])) (fun x _ _ => m - (intOf x).toNat)
  case atStart => exact ⟨i, f, wait, hi, hf, rfl, HH.out, rfl, hx, HR.out, Fr.refl _ _⟩
  case round =>
    obtain ⟨i', f', l, hi2, hf2, rfl, hN, hll, Hx, Hd, Hf⟩ := hrel
    have HN := Lib.hid hN
    have Hll := Lib.hid hll
    clear hN hll hx
    by_cases hend : m ≤ 2 * i' + 1
    · have hR : R = l := by
        rw [← Hd.out]
        cases f' with
        | zero => rfl
        | succ f' => unfold downM; rw [if_pos hend]
      have HR2 := Lib.hid hR
      clear hR
      go_wp2
      go_ret
      refine ⟨⟨_, rfl⟩, ?_, Hf.out⟩
      rw [HR2.out]
      exact HN.out
    · obtain ⟨f2, hf3⟩ : ∃ f2, f' = f2 + 1 := ⟨f' - 1, by omega⟩
      by_cases hj2 : 2 * i' + 2 < m
      · go_wp2_with fail
        refine (Less_at h n (2 * i' + 2) (2 * i' + 1) va vw flat l _ _ _ HN.out (by rw [Hll.out]; omega) (by rw [Hll.out]; omega) (by rw [Hll.out]; exact Hx.out) hn (by rw [Hll.out]; exact hl) (by omega) (by omega)).mono ?_
        rintro e w1 ⟨rfl, hb1⟩
        have HN1 := Lib.hid (HN.out.keep hb1)
        have Hf1 := Lib.hid (Hf.out.sub (Fr.ofBelow hb1 []) (fun o ho => by simp at ho))
        clear hb1 HN Hf
        cases hb1 : ltF flat (rd l (2 * i' + 2)) (rd l (2 * i' + 1))
        · have Hb1 := Lib.hid hb1
          clear hb1
          go_wp2_with fail
          have Hch : Hid (childOf (ltF flat) l i' m = 2 * i' + 1) := by show childOf (ltF flat) l i' m = 2 * i' + 1; unfold childOf; rw [if_neg (by rw [Hb1.out]; simp)]
          refine (Less_at h n (2 * i' + 1) i' va vw flat l _ _ _ HN1.out (by rw [Hll.out]; omega) (by rw [Hll.out]; omega) (by rw [Hll.out]; exact Hx.out) hn (by rw [Hll.out]; exact hl) (by omega) (by omega)).mono ?_
          rintro e w2 ⟨rfl, hb2⟩
          have HN2 := Lib.hid (HN1.out.keep hb2)
          have Hf2 := Lib.hid (Hf1.out.sub (Fr.ofBelow hb2 []) (fun o ho => by simp at ho))
          have Hd2 : Hid (downM (ltF flat) (f2 + 1) l i' m = R) := by rw [← hf3]; exact Hd.out
          clear hb2 HN1 Hf1
          cases hb2 : ltF flat (rd l (2 * i' + 1)) (rd l i')
          · have hR : R = l := by
              rw [← Hd2.out]
              unfold downM
              rw [if_neg (by omega), Hch.out, hb2, if_neg (by decide)]
            have HR2 := Lib.hid hR
            clear hb2 hR
            go_wp2
            go_ret
            refine ⟨⟨_, rfl⟩, ?_, Hf2.out⟩
            rw [HR2.out]
            exact HN2.out
          · have Hn : Hid (downM (ltF flat) f2 (swp l i' (2 * i' + 1)) (2 * i' + 1) m = R) := by
              show downM (ltF flat) f2 (swp l i' (2 * i' + 1)) (2 * i' + 1) m = R
              rw [← Hd2.out]
              conv => rhs; unfold downM
              rw [if_neg (by omega), Hch.out, hb2, if_pos rfl]
            clear hb2
            go_wp2_with fail
            refine (Swap_at h n i' (2 * i' + 1) va vw flat l _ _ _ HN2.out (by rw [Hll.out]; omega) (by rw [Hll.out]; omega) (by omega) (by omega)).mono ?_
            rintro e w3 ⟨rfl, hN3, hf3', _⟩
            have HN3 := Lib.hid hN3
            have Hf3 := Lib.hid (Hf2.out.sub hf3' (fun o ho => ho))
            clear hN3 hf3'
            go_wp2
            go_roundw
            case rel => exact ⟨2 * i' + 1, f2, swp l i' (2 * i' + 1), by omega, by omega, by go_num, HN3.out, by rw [swp_length]; exact Hll.out, swp_range (by rw [Hll.out]; omega) (by rw [Hll.out]; omega) Hx.out, Hn.out, Hf3.out⟩
            case measure => simp [intOf]; omega
        · have Hb1 := Lib.hid hb1
          clear hb1
          go_wp2_with fail
          have Hch : Hid (childOf (ltF flat) l i' m = 2 * i' + 2) := by show childOf (ltF flat) l i' m = 2 * i' + 2; unfold childOf; rw [if_pos ⟨hj2, Hb1.out⟩]
          refine (Less_at h n (2 * i' + 2) i' va vw flat l _ _ _ HN1.out (by rw [Hll.out]; omega) (by rw [Hll.out]; omega) (by rw [Hll.out]; exact Hx.out) hn (by rw [Hll.out]; exact hl) (by omega) (by omega)).mono ?_
          rintro e w2 ⟨rfl, hb2⟩
          have HN2 := Lib.hid (HN1.out.keep hb2)
          have Hf2 := Lib.hid (Hf1.out.sub (Fr.ofBelow hb2 []) (fun o ho => by simp at ho))
          have Hd2 : Hid (downM (ltF flat) (f2 + 1) l i' m = R) := by rw [← hf3]; exact Hd.out
          clear hb2 HN1 Hf1
          cases hb2 : ltF flat (rd l (2 * i' + 2)) (rd l i')
          · have hR : R = l := by
              rw [← Hd2.out]
              unfold downM
              rw [if_neg (by omega), Hch.out, hb2, if_neg (by decide)]
            have HR2 := Lib.hid hR
            clear hb2 hR
            go_wp2
            go_ret
            refine ⟨⟨_, rfl⟩, ?_, Hf2.out⟩
            rw [HR2.out]
            exact HN2.out
          · have Hn : Hid (downM (ltF flat) f2 (swp l i' (2 * i' + 2)) (2 * i' + 2) m = R) := by
              show downM (ltF flat) f2 (swp l i' (2 * i' + 2)) (2 * i' + 2) m = R
              rw [← Hd2.out]
              conv => rhs; unfold downM
              rw [if_neg (by omega), Hch.out, hb2, if_pos rfl]
            clear hb2
            go_wp2_with fail
            refine (Swap_at h n i' (2 * i' + 2) va vw flat l _ _ _ HN2.out (by rw [Hll.out]; omega) (by rw [Hll.out]; omega) (by omega) (by omega)).mono ?_
            rintro e w3 ⟨rfl, hN3, hf3', _⟩
            have HN3 := Lib.hid hN3
            have Hf3 := Lib.hid (Hf2.out.sub hf3' (fun o ho => ho))
            clear hN3 hf3'
            go_wp2
            go_roundw
            case rel => exact ⟨2 * i' + 2, f2, swp l i' (2 * i' + 2), by omega, by omega, by go_num, HN3.out, by rw [swp_length]; exact Hll.out, swp_range (by rw [Hll.out]; omega) (by rw [Hll.out]; omega) Hx.out, Hn.out, Hf3.out⟩
            case measure => simp [intOf]; omega
      · have HN1 := Lib.hid HN.out
        have Hf1 := Lib.hid Hf.out
        clear HN Hf
        go_wp2_with fail
        have Hch : Hid (childOf (ltF flat) l i' m = 2 * i' + 1) := by show childOf (ltF flat) l i' m = 2 * i' + 1; unfold childOf; rw [if_neg (fun h => hj2 h.1)]
        refine (Less_at h n (2 * i' + 1) i' va vw flat l _ _ _ HN1.out (by rw [Hll.out]; omega) (by rw [Hll.out]; omega) (by rw [Hll.out]; exact Hx.out) hn (by rw [Hll.out]; exact hl) (by omega) (by omega)).mono ?_
        rintro e w2 ⟨rfl, hb2⟩
        have HN2 := Lib.hid (HN1.out.keep hb2)
        have Hf2 := Lib.hid (Hf1.out.sub (Fr.ofBelow hb2 []) (fun o ho => by simp at ho))
        have Hd2 : Hid (downM (ltF flat) (f2 + 1) l i' m = R) := by rw [← hf3]; exact Hd.out
        clear hb2 HN1 Hf1
        cases hb2 : ltF flat (rd l (2 * i' + 1)) (rd l i')
        · have hR : R = l := by
            rw [← Hd2.out]
            unfold downM
            rw [if_neg (by omega), Hch.out, hb2, if_neg (by decide)]
          have HR2 := Lib.hid hR
          clear hb2 hR
          go_wp2
          go_ret
          refine ⟨⟨_, rfl⟩, ?_, Hf2.out⟩
          rw [HR2.out]
          exact HN2.out
        · have Hn : Hid (downM (ltF flat) f2 (swp l i' (2 * i' + 1)) (2 * i' + 1) m = R) := by
            show downM (ltF flat) f2 (swp l i' (2 * i' + 1)) (2 * i' + 1) m = R
            rw [← Hd2.out]
            conv => rhs; unfold downM
            rw [if_neg (by omega), Hch.out, hb2, if_pos rfl]
          clear hb2
          go_wp2_with fail
          refine (Swap_at h n i' (2 * i' + 1) va vw flat l _ _ _ HN2.out (by rw [Hll.out]; omega) (by rw [Hll.out]; omega) (by omega) (by omega)).mono ?_
          rintro e w3 ⟨rfl, hN3, hf3', _⟩
          have HN3 := Lib.hid hN3
          have Hf3 := Lib.hid (Hf2.out.sub hf3' (fun o ho => ho))
          clear hN3 hf3'
          go_wp2
          go_roundw
          case rel => exact ⟨2 * i' + 1, f2, swp l i' (2 * i' + 1), by omega, by omega, by go_num, HN3.out, by rw [swp_length]; exact Hll.out, swp_range (by rw [Hll.out]; omega) (by rw [Hll.out]; omega) Hx.out, Hn.out, Hf3.out⟩
          case measure => simp [intOf]; omega
set_option maxHeartbeats 1000000 in
theorem up_calls (h n j : Nat) (va vw : Value) (flat wait : List Int) (w : World) (H : NodesAt w h va vw n flat wait) (hj : j < wait.length) (hx : ∀ j, j < wait.length → 0 ≤ rd wait j ∧ rd wait j < n) (hn : n ≤ 1000000) (hl : wait.length ≤ 1000000) (f : Nat) (hf : j < f) :
    Calls Tryd.prog 73 #[nv h, .int .i64 j] w fun e w' => e = .returned (.tuple #[]) ∧ NodesAt w' h va vw n flat (upM (ltF flat) f wait j) ∧ Fr w w' [vw.ownBlock] := by
  have HH := Lib.hid H
  clear H
  obtain ⟨R, hR⟩ : ∃ R, upM (ltF flat) f wait j = R := ⟨_, rfl⟩
  rw [hR]
  have HR := Lib.hid hR
  clear hR
  have ml := m_less
  have ms := m_swap
  go_enter Tryd.func73, Tryd.ntmps73
  go_wp2
  go_loopw [1] (fun x wr => ∃ (j : Nat) (f' : Nat) (l : List Int), j < wait.length ∧ j < f' ∧ x = .int .i64 j ∧ NodesAt wr h va vw n flat l ∧ l.length = wait.length ∧ Hid (∀ j, j < wait.length → 0 ≤ rd l j ∧ rd l j < n) ∧ Hid (upM (ltF flat) f' l j = R) ∧ Hid (Fr w wr [vw.ownBlock])) (fun x _ => (intOf x).toNat)
  case atStart => exact ⟨j, f, wait, hj, hf, rfl, HH.out, rfl, hx, HR.out, Fr.refl _ _⟩
  case round =>
    obtain ⟨j', f', l, hj2, hf2, rfl, hN, hll, Hx, Hd, Hf⟩ := hrel
    have HN := Lib.hid hN
    have Hll := Lib.hid hll
    clear hN hll hx
    obtain ⟨f2, hf3⟩ : ∃ f2, f' = f2 + 1 := ⟨f' - 1, by omega⟩
    by_cases h0 : j' = 0
    · have hR : R = l := by
        rw [← Hd.out, hf3]
        unfold upM
        rw [if_pos (by omega)]
      have HR2 := Lib.hid hR
      clear hR
      subst h0
      go_wp2
      go_end0
      refine ⟨rfl, ?_, Hf.out⟩
      rw [HR2.out]
      exact HN.out
    · obtain ⟨p, hp⟩ : ∃ p, p = (j' - 1) / 2 := ⟨_, rfl⟩
      have s1 : ((j' : Int) - 1) / 2 = (p : Int) := by omega
      have s2 : (0 : Int) ≤ (j' : Int) - 1 := by omega
      have s3 : ¬ (p : Int) = (j' : Int) := by omega
      have s4 : ((p : Int) == (j' : Int)) = false := by simpa using s3
      have s5 : ¬ p = j' := by omega
      have Hp := Lib.hid hp
      have hpj : p < j' := by omega
      clear hp
      go_wp2_with fail
      refine (Less_at h n j' p va vw flat l _ _ _ HN.out (by rw [Hll.out]; omega) (by rw [Hll.out]; omega) (by rw [Hll.out]; exact Hx.out) hn (by rw [Hll.out]; exact hl) (by omega) (by omega)).mono ?_
      rintro e w2 ⟨rfl, hb2⟩
      have HN2 := Lib.hid (HN.out.keep hb2)
      have Hf2 := Lib.hid (Hf.out.sub (Fr.ofBelow hb2 []) (fun o ho => by simp at ho))
      have Hd2 : Hid (upM (ltF flat) (f2 + 1) l j' = R) := by rw [← hf3]; exact Hd.out
      clear hb2 HN Hf
      cases hb2 : ltF flat (rd l j') (rd l p)
      · have hR : R = l := by
          rw [← Hd2.out]
          unfold upM
          rw [← Hp.out, if_neg s5, hb2, if_neg (by decide)]
        have HR2 := Lib.hid hR
        clear hb2 hR
        go_wp2
        go_end0
        refine ⟨rfl, ?_, Hf2.out⟩
        rw [HR2.out]
        exact HN2.out
      · have Hn : Hid (upM (ltF flat) f2 (swp l p j') p = R) := by
          show upM (ltF flat) f2 (swp l p j') p = R
          rw [← Hd2.out]
          conv => rhs; unfold upM
          rw [← Hp.out, if_neg s5, hb2, if_pos rfl]
        clear hb2
        go_wp2_with fail
        refine (Swap_at h n p j' va vw flat l _ _ _ HN2.out (by rw [Hll.out]; omega) (by rw [Hll.out]; omega) (by omega) (by omega)).mono ?_
        rintro e w3 ⟨rfl, hN3, hf3', _⟩
        have HN3 := Lib.hid hN3
        have Hf3 := Lib.hid (Hf2.out.sub hf3' (fun o ho => ho))
        clear hN3 hf3'
        go_wp2
        go_roundw
        case rel => exact ⟨p, f2, swp l p j', by omega, by omega, rfl, HN3.out, by rw [swp_length]; exact Hll.out, swp_range (by rw [Hll.out]; omega) (by rw [Hll.out]; omega) Hx.out, Hn.out, Hf3.out⟩
        case measure => simp [intOf]; omega
set_option maxHeartbeats 1000000 in
theorem Push_calls (h n : Nat) (x : Int) (va vw : Value) (flat wait : List Int) (w : World) (H : NodesAt w h va vw n flat wait) (hx : ∀ j, j < wait.length → 0 ≤ rd wait j ∧ rd wait j < n) (h0 : 0 ≤ x) (hxn : x < n) (hn : n ≤ 1000000) (hl : wait.length < 1000000) :
    Calls Tryd.prog 70 #[nv h, .iface 3 (.int .i64 x)] w fun e w' => e = .returned (.tuple #[]) ∧ ∃ vw', NodesAt w' h va vw' n flat (pushM (ltF flat) wait x) ∧ (vw'.ownBlock = vw.ownBlock ∨ ∀ k, vw'.ownBlock = some k → w.heap.size ≤ k) ∧ Fr w w' [some h, vw.ownBlock] := by
  have HH := Lib.hid H
  have Hx := Lib.hid hx
  clear H hx
  have m1 := m_push
  have m2 := m_len
  go_enter Tryd.func70, Tryd.ntmps70
  go_wp2_with fail
  refine (NPush_calls h n va vw flat wait x _ HH.out (by omega)).mono ?_
  rintro e w1 ⟨rfl, vw', hN, hat, hf⟩
  have HN := Lib.hid hN
  have Hat := Lib.hid hat
  have Hf := Lib.hid hf
  clear hN hat hf
  go_wp2_with fail
  refine (Len_calls h n va vw' flat _ _ HN.out).mono ?_
  rintro e w2 ⟨rfl, rfl⟩
  have hlen : (wait ++ [x]).length = wait.length + 1 := by simp
  rw [hlen]
  clear hlen
  go_wp2_with fail
  refine (up_calls h n wait.length va vw' flat _ _ HN.out (by simp) (fun j hj => ?_) hn (by simp; omega) (wait.length + 1) (by omega)).mono ?_
  · rcases Nat.lt_or_ge j wait.length with h1 | h1
    · rw [rd_append_left h1]; exact Hx.out j h1
    · have : j = wait.length := by simp at hj; omega
      subst this
      rw [show rd (wait ++ [x]) wait.length = x from by simp [rd]]
      exact ⟨h0, hxn⟩
  rintro e w3 ⟨rfl, hN3, hf3⟩
  have HN3 := Lib.hid hN3
  have hf4 := Hf.out.trans hf3 (fun o ho => by
    simp at ho
    subst ho
    rcases Hat.out with h1 | h1
    · left; rw [h1]; simp
    · exact .inr h1)
  have Hf4 := Lib.hid hf4
  clear hN3 hf3 hf4
  go_wp2
  go_end0
  exact ⟨rfl, vw', HN3.out, Hat.out, Hf4.out⟩
set_option maxHeartbeats 1000000 in
theorem Pop_calls (h n : Nat) (va vw : Value) (flat wait : List Int) (w : World) (H : NodesAt w h va vw n flat wait) (hx : ∀ j, j < wait.length → 0 ≤ rd wait j ∧ rd wait j < n) (hn : n ≤ 1000000) (hl : wait.length ≤ 1000000) (h0 : 0 < wait.length) :
    Calls Tryd.prog 69 #[nv h] w fun e w' => e = .returned (.iface 3 (.int .i64 (rd (popM (ltF flat) wait) (wait.length - 1)))) ∧ ∃ vw', NodesAt w' h va vw' n flat ((popM (ltF flat) wait).take (wait.length - 1)) ∧ vw'.ownBlock = vw.ownBlock ∧ Fr w w' [some h, vw.ownBlock] := by
  have HH := Lib.hid H
  have Hx := Lib.hid hx
  clear H hx
  obtain ⟨m, hm⟩ : ∃ m, wait.length = m + 1 := ⟨wait.length - 1, by omega⟩
  have Hm := Lib.hid hm
  have hmb : m ≤ 1000000 := by omega
  have hpop : popM (ltF flat) wait = downM (ltF flat) (m + 1) (swp wait 0 m) 0 m := by unfold popM; rw [hm]; rfl
  have Hpop := Lib.hid hpop
  clear hpop
  have m1 := m_len
  have m2 := m_swap
  have m3 := m_pop
  go_enter Tryd.func69, Tryd.ntmps69
  go_wp2_with fail
  refine (Len_calls h n va vw flat _ _ HH.out).mono ?_
  rintro e w2 ⟨rfl, rfl⟩
  rw [Hm.out]
  clear hm
  go_wp2_with fail
  refine (Swap_at h n 0 m va vw flat wait _ _ _ HH.out h0 (by rw [Hm.out]; omega) (by first | rfl | omega) (by omega)).mono ?_
  rintro e w3 ⟨rfl, hN3, hf3, _⟩
  have HN3 := Lib.hid hN3
  have Hf3 := Lib.hid hf3
  clear hN3 hf3
  go_wp2_with fail
  refine (down_calls h n 0 m va vw flat _ _ HN3.out (by rw [swp_length, Hm.out]; omega) (Nat.zero_le _) (by rw [swp_length]; exact swp_range h0 (by rw [Hm.out]; omega) Hx.out h0 (by rw [Hm.out]; omega)) hn (by rw [swp_length]; exact hl) (m + 1) (by omega)).mono ?_
  rintro e w4 ⟨⟨b, rfl⟩, hN4, hf4⟩
  rw [← Hpop.out] at hN4
  have hlen : (popM (ltF flat) wait).length = m + 1 := by
    have h1 := (downM_keeps (ltF flat) (m + 1) (swp wait 0 m) 0 m (by rw [swp_length, Hm.out]; omega)).1.length_eq
    rw [Hpop.out, h1, swp_length, Hm.out]
  have Hlen := Lib.hid hlen
  have HN4 := Lib.hid hN4
  have Hf4 := Lib.hid (Hf3.out.sub hf4 (fun o ho => ho))
  clear hN4 hf4 hlen
  go_wp2_with fail
  refine (NPop_calls h n va vw flat _ _ HN4.out (by rw [Hlen.out]; omega)).mono ?_
  rintro e w5 ⟨rfl, vw', hN5, hat, hf5, _⟩
  rw [Hlen.out] at hN5
  rw [Hlen.out]
  have HN5 := Lib.hid hN5
  have Hat := Lib.hid hat
  have Hf5 := Lib.hid ((Hf4.out.mono (T := [some h, vw.ownBlock]) (fun o ho => by simp at ho ⊢; exact .inr ho)).sub hf5 (fun o ho => by simp at ho ⊢; exact .inl ho))
  clear hN5 hat hf5
  go_wp2
  go_ret
  rw [Hm.out]
  exact ⟨rfl, vw', HN5.out, Hat.out, Hf5.out⟩
set_option maxHeartbeats 1000000 in
theorem Init_calls (h n : Nat) (va vw : Value) (flat wait : List Int) (w : World) (H : NodesAt w h va vw n flat wait) (hx : ∀ j, j < wait.length → 0 ≤ rd wait j ∧ rd wait j < n) (hn : n ≤ 1000000) (hl : wait.length ≤ 1000000) :
    Calls Tryd.prog 67 #[nv h] w fun e w' => e = .returned (.tuple #[]) ∧ NodesAt w' h va vw n flat (initM (ltF flat) wait.length (wait.length / 2) wait) ∧ Fr w w' [vw.ownBlock] := by
  have HH := Lib.hid H
  have Hx := Lib.hid hx
  clear H hx
  obtain ⟨R, hR⟩ : ∃ R, initM (ltF flat) wait.length (wait.length / 2) wait = R := ⟨_, rfl⟩
  rw [hR]
  have HR := Lib.hid hR
  clear hR
  have m1 := m_len
  go_enter Tryd.func67, Tryd.ntmps67
  go_wp2_with fail
  refine (Len_calls h n va vw flat _ _ HH.out).mono ?_
  rintro e w2 ⟨rfl, rfl⟩
  have hhalf : ((wait.length : Int)) / 2 = ((wait.length / 2 : Nat) : Int) := by omega
  have hh2 : wait.length / 2 ≤ wait.length := by omega
  generalize hL : wait.length / 2 = c0 at *
  generalize hW : wait.length = L at *
  have HW := Lib.hid hW
  have HL := Lib.hid hL
  clear hW hL
  go_wp2
  go_loopw [3] (fun x wr => ∃ (c : Nat) (l : List Int), c ≤ c0 ∧ x = .int .i64 ((c : Int) - 1) ∧ NodesAt wr h va vw n flat l ∧ l.length = L ∧ Hid (∀ j, j < L → 0 ≤ rd l j ∧ rd l j < n) ∧ Hid (initM (ltF flat) L c l = R) ∧ Hid (Fr w wr [vw.ownBlock])) (fun x _ => (intOf x + 1).toNat)
  case atStart => exact ⟨c0, wait, Nat.le_refl _, rfl, HH.out, HW.out, Hx.out, HR.out, Fr.refl _ _⟩
  case round =>
    obtain ⟨c, l, hc, rfl, hN, hll, Hx2, Hd, Hf⟩ := hrel
    have HN := Lib.hid hN
    have Hll := Lib.hid hll
    clear hN hll
    by_cases h0 : c = 0
    · subst h0
      go_wp2
      go_end0
      have h1 : l = R := Hd.out
      rw [← h1]
      exact ⟨rfl, HN.out, Hf.out⟩
    · obtain ⟨q, hq⟩ : ∃ q, c = q + 1 := ⟨c - 1, by omega⟩
      subst hq
      have s1 : ((q + 1 : Nat) : Int) - 1 = q := by omega
      rw [s1]
      clear s1
      go_wp2_with fail
      refine (down_calls h n q L va vw flat l _ HN.out (by rw [Hll.out]; exact Nat.le_refl _) (by omega) (by rw [Hll.out]; exact Hx2.out) hn (by rw [Hll.out]; exact hl) L (by omega)).mono ?_
      rintro e w4 ⟨⟨b, rfl⟩, hN4, hf4⟩
      have hk := downM_keeps (ltF flat) L l q L (by rw [Hll.out]; exact Nat.le_refl _)
      have HN4 := Lib.hid hN4
      have Hlen := Lib.hid (hk.1.length_eq.trans Hll.out)
      have Hx3 : Hid (∀ j, j < L → 0 ≤ rd (downM (ltF flat) L l q L) j ∧ rd (downM (ltF flat) L l q L) j < n) := by
        intro j hj
        have h1 : rd (downM (ltF flat) L l q L) j ∈ l := by
          rw [rd_getElem (by rw [Hlen.out]; exact hj)]
          exact hk.1.mem_iff.1 (List.getElem_mem _)
        obtain ⟨i, hi, e⟩ := List.getElem_of_mem h1
        rw [← e, ← rd_getElem hi]
        exact Hx2.out i (by rw [← Hll.out]; exact hi)
      have Hf4 := Lib.hid (Hf.out.sub hf4 (fun o ho => ho))
      clear hN4 hf4 hk
      go_wp2
      go_roundw
      case rel => exact ⟨q, _, by omega, rfl, HN4.out, Hlen.out, Hx3.out, Hd.out, Hf4.out⟩
      case measure => simp [intOf]
end Go.Proofs.YtempgkglhgelkaaDoor
/-
  The walk of depths.
-/
namespace Go.Proofs.YtempgkglhgelkaaDoor
open Go.RowKit

theorem Rd.fr {w w' : World} {k : IntKind} {A : Option Addr} {n : Nat} {xs : List Int} {S : List (Option Nat)} (h : Rd w k A n xs) (hf : Fr w w' S) (hS : ∀ b o, A = some ⟨b, o, none⟩ → some b ∉ S) : Rd w' k A n xs :=
  ⟨h.1, fun hn => by
    obtain ⟨b, o, e, hc⟩ := h.2 hn
    exact ⟨b, o, e, fun j hj => by
      have h1 := hc j hj
      have hlt := World.block_lt_of_cell? _ _ h1
      rw [World.cell?_of_block (a := ⟨b, o + j, none⟩) (hf.block b hlt (fun q hq e2 => hS b o e (e2 ▸ hq)))]
      exact h1⟩⟩
set_option maxHeartbeats 1000000 in
theorem depths_calls (h n bo N co : Nat) (va vw : Value) (A : Option Addr) (m cs : Nat) (flat wait sy : List Int) (hn : n ≤ 1000000) (hh : h ≠ bo) (hSb : ∀ b o, A = some ⟨b, o, none⟩ → b ≠ bo) : ∀ (t : HT) (i d : Nat) (out : List Int) (w : World),
    NodesAt w h va vw n flat wait → Apart va.ownBlock (some bo) → Apart vw.ownBlock (some bo) → w.ownsRow 0 3 1 (.slice (some ⟨bo, 0, none⟩) N co) N (ints .i64 out) → Rd w .i64 A m sy → i < n → TreeAt flat sy t i → (∀ s ∈ t.syms, s < N) → d + i ≤ 2000000 →
    Calls Tryd.prog 71 #[.pointer (some ⟨h, 0, none⟩), .int .i64 i, .int .i64 d, .slice (some ⟨bo, 0, none⟩) N co, .slice A m cs] w fun e w' => e = .returned (.tuple #[]) ∧ w'.ownsRow 0 3 1 (.slice (some ⟨bo, 0, none⟩) N co) N (ints .i64 (writeD t d out)) ∧ Fr w w' [some bo] := by
  intro t
  induction t with
  | leaf wt s =>
    intro i d out w H apa apw hO hS hi hT hs hd
    obtain ⟨t1, t2, t3, t4⟩ := hT
    have hsN := hs s (by simp [HT.syms])
    have c0 := H.c0
    have hfl : flat.length = n * 4 := by have := H.all.1; rwa [ints_length] at this
    obtain ⟨ga, ca, rfl, _, _, hca, hacell, _⟩ := own_form H.all (by omega)
    have x0 := hacell (i * 4) _ (ints_get (by omega))
    have x1 := hacell (i * 4 + 1) _ (ints_get (by omega))
    have x2 := hacell (i * 4 + 2) _ (ints_get (by omega))
    have x3 := hacell (i * 4 + 3) _ (ints_get (by omega))
    rw [t2] at x2
    obtain ⟨b, o, rfl, hc⟩ := hS.2 (by rw [← hS.1]; omega)
    have hm := hS.1
    have z := hc i (by omega)
    rw [t4] at z
    have hol : out.length = N := by have := hO.1; rw [ints_length] at this; omega
    have oc := hO.cellAt s (by omega)
    rw [ints_get (by omega)] at oc
    have of' := hO.frozenAt s
    have him : i < m := by omega
    have Z := fun o' => kept_new z o'
    have OC := fun o' => kept_new oc o'
    have hbo := World.block_lt_of_cell? _ _ oc
    have OF := fun o' => kept_new_f of' hbo o'
    have HO := Lib.hid hO
    clear H hO hS hc hacell t1 t2 t3 t4 hs hfl hm hol apa apw z oc of' hSb
    go_enter Tryd.func71, Tryd.ntmps71
    go_wp2
    all_goals
      go_end0
      have hst := fun v : Int => own_store HO.out s (.int .i64 v)
      have hfr := fun (v : Value) => (Fr.refl w [some bo]).set ⟨bo, s, none⟩ v (.inl (by simp))
      have hwr : ∀ v : Int, v = (max d 1 : Nat) → (ints .i64 out).set s (.int .i64 v) = ints .i64 (writeD (HT.leaf wt s) d out) := fun v hv => by
        rw [← ints_set, hv]
        rfl
      refine ⟨rfl, ?_, (hfr _).alloc _⟩
      first
      | (have hd1 : 1 ≤ d := by omega
         have e := hwr (d : Int) (by omega)
         rw [← e]
         exact (hst _).alloc _)
      | (have hd1 : d ≤ 1 := by omega
         have e := hwr 1 (by omega)
         rw [← e]
         exact (hst _).alloc _)
  | node l r il ir =>
    intro i d out w H apa apw hO hS hi hT hs hd
    obtain ⟨a, b, t1, t2, t3, ha, hb, tl, tr⟩ := hT
    have c0 := H.c0
    have hfl : flat.length = n * 4 := by have := H.all.1; rwa [ints_length] at this
    have HH := Lib.hid H
    obtain ⟨ga, ca, rfl, _, _, hca, hacell, _⟩ := own_form H.all (by omega)
    have x0 := hacell (i * 4) _ (ints_get (by omega))
    have x1 := hacell (i * 4 + 1) _ (ints_get (by omega))
    have x2 := hacell (i * 4 + 2) _ (ints_get (by omega))
    have x3 := hacell (i * 4 + 3) _ (ints_get (by omega))
    rw [t2] at x2
    rw [t3] at x3
    have HO := Lib.hid hO
    have HS := Lib.hid hS
    have Apa := Lib.hid apa
    have Apw := Lib.hid apw
    have Tl := Lib.hid tl
    have Tr := Lib.hid tr
    have Hs := Lib.hid hs
    have HSb := Lib.hid hSb
    clear H hO hS hacell t1 t2 t3 tl tr hs hfl apa apw hSb
    have il' := Lib.hid il
    have ir' := Lib.hid ir
    clear il ir
    go_enter Tryd.func71, Tryd.ntmps71
    go_wp2_with fail
    have F1 : ∀ o', Fr w (w.alloc o') [some bo] := fun o' => (Fr.refl w _).alloc o'
    refine (il'.out a (d + 1) out _ (HH.out.keep ((Below.refl _ _).alloc (Nat.le_refl _) _)) Apa.out Apw.out (HO.out.alloc _) (HS.out.alloc _) (by omega) Tl.out (fun s h => Hs.out s (by simp [HT.syms, h])) (by omega)).mono ?_
    rintro e w1 ⟨rfl, hO1, hf1⟩
    have hbo : bo < w.heap.size := (HO.out.lt bo rfl).2
    have hF1 : Fr w w1 [some bo] := (F1 _).sub hf1 (fun o ho => ho)
    have hcellb : w1.cell? ⟨w.heap.size, 3, none⟩ = some (.int .i64 (b : Nat)) := by
      rw [World.cell?_of_block (a := ⟨w.heap.size, 3, none⟩) (hf1.block w.heap.size (by simp) (fun o ho => by simp at ho; subst ho; simp; omega))]
      simp
    have HO1 := Lib.hid hO1
    have HF1 := Lib.hid hF1
    have HN1 := Lib.hid (HH.out.fr hF1 (fun o ho => by
      simp at ho
      subst ho
      exact ⟨Apa.out, Apw.out, fun e => hh (by cases e; rfl)⟩))
    have HS1 := Lib.hid (HS.out.fr hF1 (fun b' o' e hm => by
      simp at hm
      exact HSb.out b' o' e hm))
    clear hO1 hF1 hf1 F1
    go_wp2_with fail
    refine (ir'.out b (d + 1) _ _ HN1.out Apa.out Apw.out HO1.out HS1.out (by omega) Tr.out (fun s h => Hs.out s (by simp [HT.syms, h])) (by omega)).mono ?_
    rintro e w2 ⟨rfl, hO2, hf2⟩
    have HO2 := Lib.hid hO2
    have HF2 := Lib.hid (HF1.out.sub hf2 (fun o ho => ho))
    clear hO2 hf2
    go_wp2
    exact bodyPost_ret (v := .tuple #[]) (by simp [results, Tryd.results71, go_sem]) rfl ⟨rfl, HO2.out, HF2.out⟩
end Go.Proofs.YtempgkglhgelkaaDoor
