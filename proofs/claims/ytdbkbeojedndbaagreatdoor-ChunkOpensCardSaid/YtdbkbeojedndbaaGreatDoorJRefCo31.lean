/-
  Texts joined into one file: RefPut.
-/
import Derived.Test.YtdbkbeojedndbaaGreatDoorJRefCo14
import Derived.Test.YtdbkbeojedndbaaGreatDoorJRefCo30
import Derived.Test.YtdbkbeojedndbaaGreatDoorJRefCo3
import Derived.Test.YtdbkbeojedndbaaGreatDoorJRefCo24
import Derived.Test.YtdbkbeojedndbaaGreatDoorJRefCo20
import Derived.Test.YtdbkbeojedndbaaGreatDoorJRefCo6
import Derived.Deep.Cut
import Derived.Deep.CutRange
import Derived.Deep.CutBlock
import Derived.Deep.DeepCutAuto
namespace Go.Proofs.YtdbkbeojedndbaaGreatDoor
open Go.RowKit

theorem rd_takeG {w : World} {k : IntKind} {b o n : Nat} {l : List Int} (h : Rd w k (some ⟨b, o, none⟩) n l) (m : Nat) (hm : m ≤ n) : Rd w k (some ⟨b, o, none⟩) m (l.take m) :=
 ⟨by rw [List.length_take, h.1]; omega, fun hm0 => ⟨b, o, rfl, fun j hj => by
  obtain ⟨b', o', e, hc⟩ := h.2 (by omega)
  cases e
  have e2 : rd (l.take m) j = rd l j := by
   unfold rd
   rw [List.getD_eq_getElem?_getD, List.getD_eq_getElem?_getD, List.getElem?_take_of_lt hj]
  rw [e2]
  exact hc j (by omega)⟩⟩
theorem codes_rng (ls : List Int) (j : Nat) (hl : ls.length = 19) (hj : j < 19) : 0 ≤ rd (codesOf ls) j ∧ rd (codesOf ls) j ≤ 3000000 := by
 rw [rd_codesOf ls j (by omega)]
 unfold codeAt
 split
 ·have := nextCode_range ls (rd ls j).toNat j (by omega)
  rw [hl] at this
  omega
 ·omega
structure OutAt (wB W : World) (v : Value) (L : List Int) (n : Nat) : Prop where
 own : W.ownsRow wB.heap.size 5 1 v n (ints .u8 L)
 len : L.length = n
 bel : Below wB.heap.size wB W
theorem OutAt.below {wB W W1 : World} {v : Value} {L : List Int} {n : Nat} (H : OutAt wB W v L n) (hb : Below W.heap.size W W1) : OutAt wB W1 v L n := ⟨own_below H.own hb, H.len, below_seq H.bel (Nat.le_refl _) hb⟩
theorem OutAt.app {wB W W1 : World} {v v1 : Value} {L l : List Int} {n m : Nat} (H : OutAt wB W v L n) (hl : l.length = m) (ho : W1.ownsRow wB.heap.size 5 1 v1 (n + m) (ints .u8 (L ++ l))) (hg : W.grownBy W1 v.ownBlock) : OutAt wB W1 v1 (L ++ l) (n + m) :=
 ⟨ho, by rw [List.length_append, hl, H.len], H.bel.grown hg H.bel.size (fun k hk => (H.own.lt k hk).1)⟩
theorem own_grown {W W1 : World} {v u : Value} {L : List Int} {base base' n n' size : Nat} {e : TypeId} {xs : List Value} (H : W.ownsRow base 5 1 v n' (ints .u8 L)) (hu : W.ownsRow base' e size u n xs) (he : e ≠ 5) (hg : W.grownBy W1 v.ownBlock) : W1.ownsRow base' e size u n xs :=
 own_fr hu (Fr.ofGrown hg) (fun o ho => by
  simp at ho
  subst ho
  exact own_apart2 he hu H)
set_option maxHeartbeats 16000000 in
set_option maxRecDepth 200000 in
theorem refPut_calls (X Y : Option Addr) (nx cx ny cy : Nat) (xs ys : List Int) (w : World) (hX : Rd w .i64 X nx xs) (hY : Rd w .i64 Y ny ys) (hx1 : 257 ≤ nx) (hx2 : nx ≤ 1000) (hy1 : 1 ≤ ny) (hy2 : ny ≤ 1000) (hcx : nx ≤ cx) (hcy : ny ≤ cy)
  (hx15 : ∀ j, j < nx → 0 ≤ rd xs j ∧ rd xs j ≤ 15) (hy15 : ∀ j, j < ny → 0 ≤ rd ys j ∧ rd ys j ≤ 15) :
  Calls Tryz.prog 68 #[.slice X nx cx, .slice Y ny cy] w fun e w' => ∃ v', e = .returned v' ∧ w'.ownsRow w.heap.size 5 1 v' (putS xs ys).length (ints .u8 (putS xs ys)) ∧ Below w.heap.size w w' := by
 have HX := Lib.hid hX
 have HY := Lib.hid hY
 have hxl := Lib.hid hX.1
 have hyl := Lib.hid hY.1
 have Hx15 := Lib.hid hx15
 have Hy15 := Lib.hid hy15
 obtain ⟨bx, ox, rfl, _⟩ := hX.2 (by omega)
 obtain ⟨bY, oY, rfl, _⟩ := hY.2 (by omega)
 clear hX hY hx15 hy15
 go_enter Tryz.func68, Tryz.ntmps68
 go_wp2_with fail
 refine (refTrim_calls (some ⟨bx, ox, none⟩) nx cx 257 xs _ HX.out (by omega) hx1 (by omega) hcx).mono ?_
 rintro e w1 ⟨rfl, rfl⟩
 go_wp2_with fail
 refine (refTrim_calls (some ⟨bY, oY, none⟩) ny cy 1 ys _ HY.out (by omega) hy1 (by omega) hcy).mono ?_
 rintro e w1 ⟨rfl, rfl⟩
 have ta := tn_rng xs 257 (nx - 257)
 have tb := tn_rng ys 1 (ny - 1)
 obtain ⟨a, ha⟩ : ∃ a, a = tn xs 257 (nx - 257) := ⟨_, rfl⟩
 obtain ⟨b, hb⟩ : ∃ b, b = tn ys 1 (ny - 1) := ⟨_, rfl⟩
 rw [← ha] at ta ⊢
 rw [← hb] at tb ⊢
 have ha257 : 257 ≤ a := ta.1
 have han : a ≤ nx := by omega
 have hb1 : 1 ≤ b := tb.1
 have hbn : b ≤ ny := by omega
 have Ha := Lib.hid ha
 have Hb := Lib.hid hb
 have HXa := Lib.hid (rd_takeG HX.out a han)
 have HYb := Lib.hid (rd_takeG HY.out b hbn)
 clear ta tb ha hb
 go_wp2_with (first
  | (at_builtin; refine wpList_appRd rfl _ _ rfl elIntN (ys := []) (own_empty w _) rfl rfl (HXa.out.alloc _) (fun e => by cases e) (by omega) (by simp) ?_; intro v1 w1 hown1 hg1; rw [Nat.zero_add, List.nil_append] at hown1; have hb1' : Below w.heap.size w w1 := ((Below.refl _ _).alloc (Nat.le_refl _) _).grown hg1 (by simp) (fun k hk => by simp [Value.ownBlock] at hk; omega))
  | (at_builtin; refine wpList_appRd rfl _ _ rfl elIntN hown1 rfl rfl (HYb.out.below hb1') (fun e => by cases e) (by omega) hb1'.size ?_; intro v2 w2 hown2 hg2; have hb2' : Below w.heap.size w w2 := hb1'.grown hg2 hb1'.size (fun k hk => (hown1.lt k hk).1); obtain ⟨A2, c2, rfl⟩ := own_slice hown2))
 obtain ⟨_, _, e9, _, hr2⟩ := own_rd hown2
 cases e9
 obtain ⟨its, hits⟩ : ∃ its, its = items (xs.take a ++ ys.take b) := ⟨_, rfl⟩
 have hrng : ∀ j, j < (xs.take a ++ ys.take b).length → 0 ≤ rd (xs.take a ++ ys.take b) j ∧ rd (xs.take a ++ ys.take b) j ≤ 15 := fun j hj => by
  rw [List.length_append, List.length_take, List.length_take, hxl.out, hyl.out] at hj
  rcases Nat.lt_or_ge j a with g | g
  ·rw [rd_appL (by rw [List.length_take, hxl.out]; omega)]
   have e2 : rd (xs.take a) j = rd xs j := by
    unfold rd
    rw [List.getD_eq_getElem?_getD, List.getD_eq_getElem?_getD, List.getElem?_take_of_lt g]
   rw [e2]
   exact Hx15.out j (by omega)
  ·have e1 : j = (xs.take a).length + (j - a) := by rw [List.length_take, hxl.out]; omega
   rw [e1, rd_appR]
   have e2 : rd (ys.take b) (j - a) = rd ys (j - a) := by
    unfold rd
    rw [List.getD_eq_getElem?_getD, List.getD_eq_getElem?_getD, List.getElem?_take_of_lt (by omega)]
   rw [e2]
   exact Hy15.out (j - a) (by omega)
 have hln : (xs.take a ++ ys.take b).length = a + b := by rw [List.length_append, List.length_take, List.length_take, hxl.out, hyl.out]; omega
 refine (refPress_calls A2 (a + b) c2 _ _ hr2 (by omega) (fun j hj => (hrng j (by omega)).1)).mono ?_
 rintro e w3 ⟨v3, rfl, hown3, hb3⟩
 rw [← hits] at hown3
 have Hb3 := Lib.hid (below_seq hb2' (Nat.le_refl _) hb3)
 have hits2 : its = itsOf xs ys := by
  rw [hits]
  unfold itsOf
  rw [hxl.out, hyl.out, ← Ha.out, ← Hb.out]
 have hlenI : its.length ≤ 2000 := by
  have h1 := items_le (xs.take a ++ ys.take b)
  rw [← hits, hln] at h1
  omega
 have hok : ∀ it ∈ its, ItemOk it := by
  rw [hits]
  exact items_ok hrng
 have Hits := Lib.hid hits2
 have HI := Lib.hid hok
 have Hown3 := Lib.hid hown3
 have hs18 : Hid (∀ k, k < its.length → itS its k ≤ 18) := fun k hk => (it_at hok hk).2.1
 have hsz3 := Hb3.out.size
 clear hits hits2 hok hown3 hb3 hr2 hown2 hown1 hb1' hb2' hg1 hg2 HX HY HXa HYb Hx15 Hy15 hrng hln
 obtain ⟨A3, c3, rfl⟩ := own_slice Hown3.out
 go_wp2_with (at_make; refine wpList_mk1 (base := w3.heap.size) (n := 19) _ rfl _ _ rfl elIntN rfl rfl rfl rfl (by omega) (Nat.le_refl _) ?_; intro w4 hown4 hb4 hsz4)
 have Hown4 := Lib.hid hown4
 have Hb4 := Lib.hid hb4
 clear hown4 hb4
 go_loopw [9] (fun i wr => ∃ k : Nat, k ≤ its.length ∧ i = .int .i64 k ∧ Hid (wr.ownsRow w3.heap.size 3 1 (.slice (some ⟨w3.heap.size, 0, none⟩) 19 19) 19 (ints .i64 (wtsIt its k))) ∧ Hid (Below w3.heap.size w3 wr)) (fun i _ => its.length - (intOf i).toNat)
 case atStart => exact ⟨0, by omega, rfl, Hown4.out, Hb4.out⟩
 case round =>
  obtain ⟨k, hk, rfl, Hw, Hbw⟩ := hrel
  by_cases hlt : k < its.length
  ·obtain ⟨gi, ci, e8, _, _, _, hic, _⟩ := own_form (own_below Hown3.out Hbw.out) (by omega)
   cases e8
   obtain ⟨k1, _, _⟩ := it_cells HI.out hlt
   have z1 := hic _ _ k1
   have hs := hs18.out k hlt
   have hwl := wtsIt_length its k
   have hle := wtsIt_le its hs18.out k (itS its k) (by omega)
   have hnx : wtsIt its (k + 1) = (wtsIt its k).set (itS its k) (rd (wtsIt its k) (itS its k) + 1) := rfl
   have zw := Hw.out.cellAt (itS its k) (by omega)
   rw [ints_get (by rw [hwl]; omega)] at zw
   have fw := Hw.out.frozenAt (itS its k)
   obtain ⟨s, hse⟩ : ∃ s, s = itS its k := ⟨_, rfl⟩
   obtain ⟨y, hy⟩ : ∃ y, y = rd (wtsIt its k) (itS its k) := ⟨_, rfl⟩
   rw [← hy] at zw hnx hle
   rw [← hse] at zw fw hnx z1 hs
   have Hnx := Lib.hid hnx
   clear hic k1 hwl hnx hse hy
   go_wp2
   go_roundw
   case rel =>
    refine ⟨k + 1, by omega, by go_num, ?_, Hbw.out.setCell (p := ⟨w3.heap.size, s, none⟩) (Nat.le_refl _) _⟩
    have h9 := own_store Hw.out s (.int .i64 (y + 1))
    rw [← ints_set, ← Hnx.out] at h9
    exact h9
   case measure => simp [intOf]; omega
  ·obtain rfl : k = its.length := by omega
   obtain ⟨_, _, e9, _, hrw⟩ := own_rd Hw.out
   cases e9
   have Hrw := Lib.hid hrw
   have hnn := wtsIt_nn its hs18.out its.length (Nat.le_refl _)
   have hsum := wtsIt_sum its hs18.out its.length (Nat.le_refl _)
   have hfew := lensIt_few its
   have hlr := Lib.hid (lensIt_rng its hs18.out)
   have hlo := Lib.hid (lensIt_ok its hs18.out)
   have hll := Lib.hid (lensIt_length its)
   have hLs : lensOf 7 (wtsIt its its.length) = lensIt its := rfl
   have Hbr := Lib.hid (below_seq Hb3.out (Nat.le_refl _) Hbw.out)
   have Hown5 := Lib.hid (own_below Hown3.out Hbw.out)
   clear hrw Hw Hown4 Hb4
   go_wp2_with fail
   refine (refLengths_calls 7 _ 19 19 (wtsIt its its.length) _ (by omega) Hrw.out (fun e => by cases e) (by omega) (fun x hx => (hnn x hx).1) (by omega) hfew).mono ?_
   rintro e w5 ⟨v5, rfl, hown5, hb5⟩
   rw [hLs] at hown5
   obtain ⟨ls, hls⟩ : ∃ ls, ls = lensIt its := ⟨_, rfl⟩
   rw [← hls] at hown5 hlr hlo hll
   have Hls := Lib.hid hls
   have HI5 := Lib.hid (own_below Hown5.out hb5)
   have Hb5 := Lib.hid (below_seq Hbr.out (Nat.le_refl _) hb5)
   obtain ⟨gl, cl, rfl, hgl1, hgl2, hcl, _, _⟩ := own_form hown5 (by omega)
   have Hown6 := Lib.hid hown5
   clear hown5 hb5 hnn hsum hfew hLs hls Hown5 Hbr Hrw Hbw
   go_wp2_with fail
   refine (order_calls _).mono ?_
   rintro e w6 ⟨go, rfl, hoc, hb6⟩
   have HO := Lib.hid hoc
   have Hl6 := Lib.hid (own_below Hown6.out hb6)
   have HI6 := Lib.hid (own_below HI5.out hb6)
   have Hb6 := Lib.hid (below_seq Hb5.out (Nat.le_refl _) hb6)
   clear hoc hb6 Hown6 HI5 Hb5
   go_wp2
   go_loop [12, 13] (fun m i => ∃ d : Nat, d ≤ 15 ∧ i = .int .i64 ((4 + d : Nat) : Int) ∧ m = .int .i64 (tn (ordV ls) 4 d : Nat)) (fun _ i => 19 - (intOf i).toNat)
   case atStart => exact ⟨0, by omega, rfl, rfl⟩
   case round =>
    obtain ⟨d, hd, rfl, rfl⟩ := hrel
    have htr := tn_rng (ordV ls) 4 d
    by_cases hlt2 : d < 15
    ·have zo := HO.out (4 + d) (by omega)
     have hol := ordL_lt (4 + d)
     have ho := rd_ordV (ls := ls) (j := 4 + d) (by omega)
     have hu : tn (ordV ls) 4 (d + 1) = if rd (ordV ls) (4 + d) = 0 then tn (ordV ls) 4 d else 4 + d + 1 := rfl
     rw [ho] at hu
     have z := Hl6.out.cellAt (ordL.getD (4 + d) 0) (by omega)
     rw [ints_get (by rw [hll.out]; exact hol)] at z
     have hr := hlr.out (ordL.getD (4 + d) 0)
     obtain ⟨y, hy⟩ : ∃ y, y = rd ls (ordL.getD (4 + d) 0) := ⟨_, rfl⟩
     obtain ⟨oi, hoi⟩ : ∃ oi, oi = ordL.getD (4 + d) 0 := ⟨_, rfl⟩
     rw [← hy] at z hu hr
     rw [← hoi] at z zo hol
     obtain ⟨q, hq⟩ : ∃ q, q = 4 + d := ⟨_, rfl⟩
     rw [← hq] at zo hu ⊢
     have hq19 : q < 19 := by omega
     have Hq := Lib.hid hq
     clear ho hy hoi hq
     by_cases hy0 : y = 0
     ·rw [if_pos hy0] at hu
      have Hu := Lib.hid hu
      subst hy0
      clear hu
      go_wp2
      go_round
      case rel => exact ⟨d + 1, by omega, by rw [show 4 + (d + 1) = q + 1 from by have := Hq.out; omega]; go_num, by rw [Hu.out]⟩
      case measure => simp [intOf]; omega
     ·rw [if_neg hy0] at hu
      have Hu := Lib.hid hu
      have hy1' : 0 < y := by omega
      clear hu
      go_wp2
      go_round
      case rel => exact ⟨d + 1, by omega, by rw [show 4 + (d + 1) = q + 1 from by have := Hq.out; omega]; go_num, by rw [Hu.out]; go_num⟩
      case measure => simp [intOf]; omega
    ·obtain rfl : d = 15 := by omega
     obtain ⟨mv, hmv⟩ : ∃ mv, mv = tn (ordV ls) 4 15 := ⟨_, rfl⟩
     rw [← hmv] at htr ⊢
     have hm4 : 4 ≤ mv := htr.1
     have hm19 : mv ≤ 19 := htr.2
     have Hmv := Lib.hid hmv
     obtain ⟨a', ha'⟩ : ∃ a', a' = a - 257 := ⟨_, rfl⟩
     obtain ⟨b', hb'⟩ : ∃ b', b' = b - 1 := ⟨_, rfl⟩
     obtain ⟨m', hm'⟩ : ∃ m', m' = mv - 4 := ⟨_, rfl⟩
     have sA : (a : Int) - 257 = (a' : Int) := by omega
     have sB : (b : Int) - 1 = (b' : Int) := by omega
     have sM : (mv : Int) - 4 = (m' : Int) := by omega
     have ha'2 : a' ≤ 1000 := by omega
     have hb'2 : b' ≤ 1000 := by omega
     have hm'2 : m' ≤ 15 := by omega
     have Ha' := Lib.hid ha'
     have Hb' := Lib.hid hb'
     have Hm' := Lib.hid hm'
     clear hmv htr ha' hb' hm'
     go_wp2_with fail
     refine (Low_calls a' 5 _ (by omega) (by omega)).mono ?_
     rintro e w7 ⟨v7, rfl, hown7, hb7⟩
     have O7 : Hid (OutAt w6 w7 v7 (lowOf a' 5) 5) := ⟨hown7, lowOf_length _ _, hb7⟩
     clear hown7 hb7
     go_wp2_with fail
     refine (Low_calls b' 5 _ (by omega) (by omega)).mono ?_
     rintro e w8 ⟨v8, rfl, hown8, hb8⟩
     obtain ⟨A8, c8, rfl, _, hr8⟩ := own_rd hown8
     have hn8 := own_none hown8
     have O8 := Lib.hid (O7.out.below hb8)
     have Hr8 := Lib.hid hr8
     have Hn8 := Lib.hid hn8
     clear hown8 hb8 hr8 hn8 O7
     go_wp2_with (at_builtin; refine wpList_appRd rfl _ _ rfl elB O8.out.own rfl rfl Hr8.out Hn8.out (by omega) O8.out.bel.size ?_; intro v9 w9 hown9 hg9)
     have O9 := Lib.hid (O8.out.app (lowOf_length _ _) hown9 hg9)
     clear hown9 hg9 O8 Hr8 Hn8
     go_wp2_with fail
     refine (Low_calls m' 4 _ (by omega) (by omega)).mono ?_
     rintro e w10 ⟨v10, rfl, hown10, hb10⟩
     obtain ⟨A10, c10, rfl, _, hr10⟩ := own_rd hown10
     have hn10 := own_none hown10
     have O10 := Lib.hid (O9.out.below hb10)
     have Hr10 := Lib.hid hr10
     have Hn10 := Lib.hid hn10
     clear hown10 hb10 hr10 hn10 O9
     go_wp2_with (at_builtin; refine wpList_appRd rfl _ _ rfl elB O10.out.own rfl rfl Hr10.out Hn10.out (by omega) O10.out.bel.size ?_; intro v11 w11 hown11 hg11)
     have O11 := Lib.hid (O10.out.app (lowOf_length _ _) hown11 hg11)
     clear hown11 hg11 O10 Hr10 Hn10
     obtain ⟨L1, hL1⟩ : ∃ L1, L1 = lowOf a' 5 ++ lowOf b' 5 ++ lowOf m' 4 := ⟨_, rfl⟩
     rw [← hL1] at O11
     have hL1l : L1.length = 14 := by rw [hL1, List.length_append, List.length_append, lowOf_length, lowOf_length, lowOf_length]
     have HL1 := Lib.hid hL1
     clear hL1
     go_wp2
     go_loopw [14, 15] (fun v i wr => ∃ k n : Nat, k ≤ mv ∧ i = .int .i64 k ∧ n ≤ 100 ∧ Hid (OutAt w6 wr v (L1 ++ lows (ordV ls) 3 k) n)) (fun _ i _ => mv - (intOf i).toNat)
     case atStart => exact ⟨0, 14, by omega, rfl, by omega, by rw [show lows (ordV ls) 3 0 = [] from rfl, List.append_nil]; exact O11.out⟩
     case round =>
      obtain ⟨k, n, hk, rfl, hn100, O⟩ := hrel
      have hlen3 := lows_length (ordV ls) 3 k
      have hOl := O.out.len
      rw [List.length_append, hL1l, hlen3] at hOl
      by_cases hlt3 : k < mv
      ·have zo := kept_cell O.out.bel (HO.out k (by omega))
       have hol := ordL_lt k
       have zl := (own_below Hl6.out O.out.bel).cellAt (ordL.getD k 0) (by omega)
       rw [ints_get (by rw [hll.out]; exact hol)] at zl
       have hr := hlr.out (ordL.getD k 0)
       have hov := rd_ordV (ls := ls) (j := k) (by omega)
       obtain ⟨y, hy⟩ : ∃ y : Nat, rd ls (ordL.getD k 0) = y := ⟨(rd ls (ordL.getD k 0)).toNat, by omega⟩
       obtain ⟨oi, hoi⟩ : ∃ oi, oi = ordL.getD k 0 := ⟨_, rfl⟩
       have hsucc := lows_succ (ordV ls) 3 k
       rw [hov, hy, Int.toNat_natCast] at hsucc
       rw [hy] at zl hr
       rw [← hoi] at zo zl hol
       have Hsucc := Lib.hid hsucc
       obtain ⟨Av, cv, rfl⟩ := own_slice O.out.own
       clear hov hy hoi hsucc
       go_wp2_with fail
       refine (Low_calls y 3 _ (by omega) (by omega)).mono ?_
       rintro e w12 ⟨v12, rfl, hown12, hb12⟩
       obtain ⟨A12, c12, rfl, _, hr12⟩ := own_rd hown12
       have hn12 := own_none hown12
       have O12 := Lib.hid (O.out.below hb12)
       have Hr12 := Lib.hid hr12
       have Hn12 := Lib.hid hn12
       clear hown12 hb12 hr12 hn12
       go_wp2_with (at_builtin; refine wpList_appRd rfl _ _ rfl elB O12.out.own rfl rfl Hr12.out Hn12.out (by omega) O12.out.bel.size ?_; intro v13 w13 hown13 hg13)
       have O13 := Lib.hid (O12.out.app (lowOf_length _ _) hown13 hg13)
       clear hown13 hg13
       go_roundw
       case rel => exact ⟨k + 1, n + 3, by omega, by go_num, by omega, by rw [Hsucc.out, ← List.append_assoc]; exact O13.out⟩
       case measure => simp [intOf]; omega
      ·obtain rfl : k = mv := by omega
       have hl7 := own_below Hl6.out O.out.bel
       obtain ⟨_, _, e9, _, hrl⟩ := own_rd hl7
       cases e9
       have Hrl := Lib.hid hrl
       have Hl7 := Lib.hid hl7
       have HI7 := Lib.hid (own_below HI6.out O.out.bel)
       clear hrl hl7
       go_wp2_with fail
       refine (refCodes_calls _ 19 cl ls _ Hrl.out (by omega)).mono ?_
       rintro e w14 ⟨v14, rfl, hown14, hb14⟩
       obtain ⟨gc, cc, rfl, _, _, hccc, _, _⟩ := own_form hown14 (by omega)
       obtain ⟨bcd, hbcd⟩ : ∃ q, q = wr.heap.size := ⟨_, rfl⟩
       rw [← hbcd] at hown14
       have HC14 := Lib.hid hown14
       have O14 := Lib.hid (O.out.below hb14)
       obtain ⟨L2, hL2⟩ : ∃ L2, L2 = L1 ++ lows (ordV ls) 3 k := ⟨_, rfl⟩
       rw [← hL2] at O14
       have hL2l : L2.length ≤ 100 := by rw [hL2, List.length_append, hlen3]; omega
       have HL2 := Lib.hid hL2
       have hbl := Lib.hid (bitsIt_length ls its hlr.out (fun k hk => (it_at HI.out hk).2.2.1))
       clear hown14 hb14 hL2 hlen3 Hrl O O11 hbcd hOl
       go_wp2
       go_loopw [14, 17] (fun v i wr => ∃ k n : Nat, k ≤ its.length ∧ i = .int .i64 k ∧ n ≤ 30000 ∧ Hid (OutAt w6 wr v (L2 ++ bitsIt ls its k) n) ∧ Hid (wr.ownsRow bcd 36 1 (.slice (some ⟨gc, 0, none⟩) 19 cc) 19 (ints .u64 (codesOf ls)))) (fun _ i _ => its.length - (intOf i).toNat)
       case atStart => exact ⟨0, n, by omega, rfl, by omega, by rw [show bitsIt ls its 0 = [] from rfl, List.append_nil]; exact O14.out, HC14.out⟩
       case round =>
        obtain ⟨k, n, hk, rfl, hn3, O, HC⟩ := hrel
        have hOl := O.out.len
        rw [List.length_append] at hOl
        by_cases hlt4 : k < its.length
        ·obtain ⟨gi, ci, e8, _, _, _, hic, _⟩ := own_form (own_below HI6.out O.out.bel) (by omega)
         cases e8
         obtain ⟨k1, k2, k3⟩ := it_cells HI.out hlt4
         have z1 := hic _ _ k1
         have z2 := hic _ _ k2
         have z3 := hic _ _ k3
         obtain ⟨_, hs, hbI7, heI⟩ := it_at HI.out hlt4
         have hr := hlr.out (itS its k)
         have hcr := codes_rng ls (itS its k) hll.out (by omega)
         have zl := (own_below Hl6.out O.out.bel).cellAt (itS its k) (by omega)
         rw [ints_get (by rw [hll.out]; omega)] at zl
         have zc := HC.out.cellAt (itS its k) (by omega)
         rw [ints_get (by rw [codesOf_length, hll.out]; omega)] at zc
         have hsucc := bitsIt_succ ls its k
         have hbk := hbl.out k hk
         obtain ⟨y, hy⟩ : ∃ y : Nat, rd ls (itS its k) = y := ⟨(rd ls (itS its k)).toNat, by omega⟩
         obtain ⟨cd, hcd⟩ : ∃ cd : Nat, rd (codesOf ls) (itS its k) = cd := ⟨(rd (codesOf ls) (itS its k)).toNat, by omega⟩
         rw [hy] at zl hr
         rw [hcd] at zc hcr
         rw [hy, hcd, Int.toNat_natCast, Int.toNat_natCast] at hsucc
         obtain ⟨s, hse⟩ : ∃ s, s = itS its k := ⟨_, rfl⟩
         obtain ⟨bI, hbI⟩ : ∃ q, q = itB its k := ⟨_, rfl⟩
         obtain ⟨eI, heI'⟩ : ∃ q, q = itE its k := ⟨_, rfl⟩
         rw [← hse] at zl zc z1 hs
         rw [← hbI] at z2 hbI7 hsucc
         rw [← heI'] at z3 heI hsucc
         have Hsucc := Lib.hid hsucc
         have hs19 : (s : Int) < 19 := by omega
         obtain ⟨Av, cv, rfl⟩ := own_slice O.out.own
         have HIr := own_below HI6.out O.out.bel
         have Hlr := own_below Hl6.out O.out.bel
         have OD := Lib.hid (O.out.below (Below.refl _ _).drew)
         have ID := Lib.hid (own_below HIr (Below.refl _ _).drew)
         have LD := Lib.hid (own_below Hlr (Below.refl _ _).drew)
         have CD := Lib.hid (own_below HC.out (Below.refl _ _).drew)
         have zd1 : wr.drew.cell? ⟨gi, k * 3, none⟩ = some (.int .i64 s) := z1
         have zd2 : wr.drew.cell? ⟨gi, k * 3 + 1, none⟩ = some (.int .i64 bI) := z2
         have zd3 : wr.drew.cell? ⟨gi, k * 3 + 2, none⟩ = some (.int .u64 eI) := z3
         have zdl : wr.drew.cell? ⟨gl, s, none⟩ = some (.int .i64 y) := zl
         have zdc : wr.drew.cell? ⟨gc, s, none⟩ = some (.int .u64 cd) := zc
         clear hic k1 k2 k3 hy hcd hse hbI heI' hsucc HIr Hlr z2 z3
         go_upto_region 27 with fail
         refine wp_region_last (n := 19) (on := ⟨_, _, _, _, _, _⟩) (S := fun W => W.cell? ⟨gi, k * 3, none⟩ = some (.int .i64 s) ∧ W.cell? ⟨gl, s, none⟩ = some (.int .i64 y) ∧ W.cell? ⟨gc, s, none⟩ = some (.int .u64 cd)) (by kernel_rfl) rfl (by kernel_rfl) (⟨z1, zl, zc⟩) (fun hHeld => ?_)
         refine' wpAnyH_take (i := 0) (oi := ⟨_, _, _, _, _, _⟩) rfl (by kernel_rfl) (by kernel_rfl) (by kernel_rfl) (fun _ _ _ h => h) (Or.inl ⟨by rfl, ?a0⟩) (by assumption) ?b0
         case a0 => (intro w hSw; (try dsimp only at hSw); go_simp; try with_reducible rfl)
         try simp only [Act.put, List.setIfInBounds_toArray, List.set_cons_zero, List.set_cons_succ]
         refine' wpAnyH_take (i := 1) (oi := ⟨_, _, _, _, _, _⟩) rfl (by kernel_rfl) (by kernel_rfl) (by kernel_rfl) (fun _ _ _ h => h) (Or.inl ⟨by rfl, ?a1⟩) (by assumption) ?b1
         case a1 => (intro w hSw; (try dsimp only at hSw); go_simp; try with_reducible rfl)
         try simp only [Act.put, List.setIfInBounds_toArray, List.set_cons_zero, List.set_cons_succ]
         refine' wpAnyH_take (i := 2) (oi := ⟨_, _, _, _, _, _⟩) rfl (by kernel_rfl) (by kernel_rfl) (by kernel_rfl) (fun _ _ _ h => h) (Or.inl ⟨by rfl, ?a2⟩) (by assumption) ?b2
         case a2 => (intro w hSw; (try dsimp only at hSw); go_simp; try with_reducible rfl)
         try simp only [Act.put, List.setIfInBounds_toArray, List.set_cons_zero, List.set_cons_succ]
         refine' wpAnyH_take (i := 3) (oi := ⟨_, _, _, _, _, _⟩) rfl (by kernel_rfl) (by kernel_rfl) (by kernel_rfl) (fun _ _ _ h => h) (Or.inl ⟨by rfl, ?a3⟩) (by assumption) ?b3
         case a3 => (intro w hSw; (try dsimp only at hSw); go_simp; try with_reducible rfl)
         try simp only [Act.put, List.setIfInBounds_toArray, List.set_cons_zero, List.set_cons_succ]
         refine' wpAnyH_take (i := 4) (oi := ⟨_, _, _, _, _, _⟩) rfl (by kernel_rfl) (by kernel_rfl) (by kernel_rfl) (fun _ _ _ h => h) (Or.inl ⟨by rfl, ?a4⟩) (by assumption) ?b4
         case a4 => (intro w hSw; (try dsimp only at hSw); go_simp; try with_reducible rfl)
         try simp only [Act.put, List.setIfInBounds_toArray, List.set_cons_zero, List.set_cons_succ]
         refine' wpAnyH_take (i := 5) (oi := ⟨_, _, _, _, _, _⟩) rfl (by kernel_rfl) (by kernel_rfl) (by kernel_rfl) (fun _ _ _ h => h) (Or.inl ⟨by rfl, ?a5⟩) (by assumption) ?b5
         case a5 => (intro w hSw; (try dsimp only at hSw); go_simp; try with_reducible rfl)
         try simp only [Act.put, List.setIfInBounds_toArray, List.set_cons_zero, List.set_cons_succ]
         refine' wpAnyH_take (i := 6) (oi := ⟨_, _, _, _, _, _⟩) rfl (by kernel_rfl) (by kernel_rfl) (by kernel_rfl) (fun _ _ _ h => h) (Or.inl ⟨by rfl, ?a6⟩) (by assumption) ?b6
         case a6 => (intro w hSw; (try dsimp only at hSw); go_simp; try with_reducible rfl)
         try simp only [Act.put, List.setIfInBounds_toArray, List.set_cons_zero, List.set_cons_succ]
         refine' wpAnyH_take (i := 7) (oi := ⟨_, _, _, _, _, _⟩) rfl (by kernel_rfl) (by kernel_rfl) (by kernel_rfl) (fun _ _ _ h => h) (Or.inl ⟨by rfl, ?a7⟩) (by assumption) ?b7
         case a7 => (intro w hSw; (try dsimp only at hSw); go_simp; try with_reducible rfl)
         try simp only [Act.put, List.setIfInBounds_toArray, List.set_cons_zero, List.set_cons_succ]
         refine' wpAnyH_take (i := 8) (oi := ⟨_, _, _, _, _, _⟩) rfl (by kernel_rfl) (by kernel_rfl) (by kernel_rfl) (fun _ _ _ h => h) (Or.inl ⟨by rfl, ?a8⟩) (by assumption) ?b8
         case a8 => (intro w hSw; (try dsimp only at hSw); go_simp; try with_reducible rfl)
         try simp only [Act.put, List.setIfInBounds_toArray, List.set_cons_zero, List.set_cons_succ]
         refine' wpAnyH_take (i := 9) (oi := ⟨_, _, _, _, _, _⟩) rfl (by kernel_rfl) (by kernel_rfl) (by kernel_rfl) (fun _ _ _ h => h) (Or.inl ⟨by rfl, ?a9⟩) (by assumption) ?b9
         case a9 => (intro w hSw; (try dsimp only at hSw); go_simp; try with_reducible rfl)
         try simp only [Act.put, List.setIfInBounds_toArray, List.set_cons_zero, List.set_cons_succ]
         refine' wpAnyH_take (i := 10) (oi := ⟨_, _, _, _, _, _⟩) rfl (by kernel_rfl) (by kernel_rfl) (by kernel_rfl) (fun _ _ _ h => h) (Or.inl ⟨by rfl, ?a10⟩) (by assumption) ?b10
         case a10 => (intro w hSw; (try dsimp only at hSw); go_simp; try with_reducible rfl)
         try simp only [Act.put, List.setIfInBounds_toArray, List.set_cons_zero, List.set_cons_succ]
         refine' wpAnyH_take (i := 11) (oi := ⟨_, _, _, _, _, _⟩) rfl (by kernel_rfl) (by kernel_rfl) (by kernel_rfl) (fun _ _ _ h => h) (Or.inl ⟨by rfl, ?a11⟩) (by assumption) ?b11
         case a11 => (intro w hSw; (try dsimp only at hSw); go_simp; try with_reducible rfl)
         try simp only [Act.put, List.setIfInBounds_toArray, List.set_cons_zero, List.set_cons_succ]
         refine' wpAnyH_take (i := 12) (oi := ⟨_, _, _, _, _, _⟩) rfl (by kernel_rfl) (by kernel_rfl) (by kernel_rfl) (fun _ _ _ h => h) (Or.inl ⟨by rfl, ?a12⟩) (by assumption) ?b12
         case a12 => (intro w hSw; (try dsimp only at hSw); go_simp; try with_reducible rfl)
         try simp only [Act.put, List.setIfInBounds_toArray, List.set_cons_zero, List.set_cons_succ]
         refine' wpAnyH_take (i := 13) (oi := ⟨_, _, _, _, _, _⟩) rfl (by kernel_rfl) (by kernel_rfl) (by kernel_rfl) (fun _ _ _ h => h) (Or.inl ⟨by rfl, ?a13⟩) (by assumption) ?b13
         case a13 => (intro w hSw; (try dsimp only at hSw); go_simp; try with_reducible rfl)
         try simp only [Act.put, List.setIfInBounds_toArray, List.set_cons_zero, List.set_cons_succ]
         refine' wpAnyH_take (i := 14) (oi := ⟨_, _, _, _, _, _⟩) rfl (by kernel_rfl) (by kernel_rfl) (by kernel_rfl) (fun _ _ _ h => h) (Or.inl ⟨by rfl, ?a14⟩) (by assumption) ?b14
         case a14 => (intro w hSw; (try dsimp only at hSw); go_simp; try with_reducible rfl)
         try simp only [Act.put, List.setIfInBounds_toArray, List.set_cons_zero, List.set_cons_succ]
         refine' wpAnyH_take (i := 15) (oi := ⟨_, _, _, _, _, _⟩) rfl (by kernel_rfl) (by kernel_rfl) (by kernel_rfl) (fun _ _ _ h => h) (Or.inl ⟨by rfl, ?a15⟩) (by assumption) ?b15
         case a15 => (intro w hSw; (try dsimp only at hSw); go_simp; try with_reducible rfl)
         try simp only [Act.put, List.setIfInBounds_toArray, List.set_cons_zero, List.set_cons_succ]
         refine' wpAnyH_take (i := 16) (oi := ⟨_, _, _, _, _, _⟩) rfl (by kernel_rfl) (by kernel_rfl) (by kernel_rfl) (fun _ _ _ h => h) (Or.inl ⟨by rfl, ?a16⟩) (by assumption) ?b16
         case a16 => (intro w hSw; (try dsimp only at hSw); go_simp; try with_reducible rfl)
         try simp only [Act.put, List.setIfInBounds_toArray, List.set_cons_zero, List.set_cons_succ]
         refine wpAnyH_ready (rs := [17]) (by kernel_rfl) (by simp) ?_
         refine AllReadyH.cons (o := ⟨_, _, _, _, _, _⟩) rfl (fun K hK => ?_) AllReadyH.nil
         go_simp
         go_at_call 90
         refine (High_calls cd y _ (by omega) (by omega)).mono ?_
         rintro e w15 ⟨v15, rfl, hown15, hb15⟩
         obtain ⟨A15, c15, rfl, _, hr15⟩ := own_rd hown15
         have hn15 := own_none hown15
         have O15 := Lib.hid (OD.out.below hb15)
         have Hr15 := Lib.hid hr15
         have Hn15 := Lib.hid hn15
         have HI15 := Lib.hid (own_below ID.out hb15)
         have Hl15 := Lib.hid (own_below LD.out hb15)
         have HC15 := Lib.hid (own_below CD.out hb15)
         have Q1 := kept_cell hb15 zd1
         have Q2 := kept_cell hb15 zdl
         have Q3 := kept_cell hb15 zdc
         have Q4 := kept_cell hb15 zd2
         have Q5 := kept_cell hb15 zd3
         clear hown15 hb15 hr15 hn15
         refine hK.out _ _ (⟨Q1, Q2, Q3⟩) (fun hHeld => ?_)
         clear hK K
         try simp only [Act.put, List.setIfInBounds_toArray, List.set_cons_zero, List.set_cons_succ]
         refine wpAnyH_ready (rs := [18]) (by kernel_rfl) (by simp) ?_
         refine AllReadyH.cons (o := ⟨_, _, _, _, _, _⟩) rfl (fun K hK => ?_) AllReadyH.nil
         refine step_appRd (by rfl) _ _ (by rfl) elB O15.out.own (by rfl) (by rfl) Hr15.out Hn15.out (by omega) O15.out.bel.size ?_
         intro v16 w16 hown16 hg16
         have nI := Ne.symm (own_apart2 (by decide) HI15.out O15.out.own gi rfl)
         have nL := Ne.symm (own_apart2 (by decide) Hl15.out O15.out.own gl rfl)
         have nC := Ne.symm (own_apart2 (by decide) HC15.out O15.out.own gc rfl)
         have R1 := hg16.cell Q1 nI
         have R2 := hg16.cell Q2 nL
         have R3 := hg16.cell Q3 nC
         have R4 := hg16.cell Q4 nI
         have R5 := hg16.cell Q5 nI
         have O16 := Lib.hid (O15.out.app (hiOf_length _ _) hown16 hg16)
         have HI16 := Lib.hid (own_grown O15.out.own HI15.out (by decide) hg16)
         have HC16 := Lib.hid (own_grown O15.out.own HC15.out (by decide) hg16)
         clear hown16 hg16
         refine hK.out _ _ (⟨R1, R2, R3⟩) (fun hHeld => ?_)
         clear hK K
         try simp only [Act.put, List.setIfInBounds_toArray, List.set_cons_zero, List.set_cons_succ]
         refine wpAnyH_done (by kernel_rfl) ?_ _
         change wpList _ _ _ _ _ _
         go_upto_region 28 with fail
         have OE := Lib.hid (O16.out.below (Below.refl _ _).drew)
         have IE := Lib.hid (own_below HI16.out (Below.refl _ _).drew)
         have CE := Lib.hid (own_below HC16.out (Below.refl _ _).drew)
         have Rd4 : w16.drew.cell? ⟨gi, k * 3 + 1, none⟩ = some (.int .i64 bI) := R4
         have Rd5 : w16.drew.cell? ⟨gi, k * 3 + 2, none⟩ = some (.int .u64 eI) := R5
         clear z1 zl zc zd1 zd2 zd3 zdl zdc Q1 Q2 Q3 Q4 Q5 R1 R2 R3 nI nL nC OD ID LD CD O15 HI15 Hl15 HC15
         refine wp_region_last (n := 13) (on := ⟨_, _, _, _, _, _⟩) (S := fun W => W.cell? ⟨gi, k * 3 + 1, none⟩ = some (.int .i64 bI) ∧ W.cell? ⟨gi, k * 3 + 2, none⟩ = some (.int .u64 eI)) (by kernel_rfl) rfl (by kernel_rfl) (⟨R4, R5⟩) (fun hHeld => ?_)
         refine' wpAnyH_take (i := 0) (oi := ⟨_, _, _, _, _, _⟩) rfl (by kernel_rfl) (by kernel_rfl) (by kernel_rfl) (fun _ _ _ h => h) (Or.inl ⟨by rfl, ?a17⟩) (by assumption) ?b17
         case a17 => (intro w hSw; (try dsimp only at hSw); go_simp; try with_reducible rfl)
         try simp only [Act.put, List.setIfInBounds_toArray, List.set_cons_zero, List.set_cons_succ]
         refine' wpAnyH_take (i := 1) (oi := ⟨_, _, _, _, _, _⟩) rfl (by kernel_rfl) (by kernel_rfl) (by kernel_rfl) (fun _ _ _ h => h) (Or.inl ⟨by rfl, ?a18⟩) (by assumption) ?b18
         case a18 => (intro w hSw; (try dsimp only at hSw); go_simp; try with_reducible rfl)
         try simp only [Act.put, List.setIfInBounds_toArray, List.set_cons_zero, List.set_cons_succ]
         refine' wpAnyH_take (i := 2) (oi := ⟨_, _, _, _, _, _⟩) rfl (by kernel_rfl) (by kernel_rfl) (by kernel_rfl) (fun _ _ _ h => h) (Or.inl ⟨by rfl, ?a19⟩) (by assumption) ?b19
         case a19 => (intro w hSw; (try dsimp only at hSw); go_simp; try with_reducible rfl)
         try simp only [Act.put, List.setIfInBounds_toArray, List.set_cons_zero, List.set_cons_succ]
         refine' wpAnyH_take (i := 3) (oi := ⟨_, _, _, _, _, _⟩) rfl (by kernel_rfl) (by kernel_rfl) (by kernel_rfl) (fun _ _ _ h => h) (Or.inl ⟨by rfl, ?a20⟩) (by assumption) ?b20
         case a20 => (intro w hSw; (try dsimp only at hSw); go_simp; try with_reducible rfl)
         try simp only [Act.put, List.setIfInBounds_toArray, List.set_cons_zero, List.set_cons_succ]
         refine' wpAnyH_take (i := 4) (oi := ⟨_, _, _, _, _, _⟩) rfl (by kernel_rfl) (by kernel_rfl) (by kernel_rfl) (fun _ _ _ h => h) (Or.inl ⟨by rfl, ?a21⟩) (by assumption) ?b21
         case a21 => (intro w hSw; (try dsimp only at hSw); go_simp; try with_reducible rfl)
         try simp only [Act.put, List.setIfInBounds_toArray, List.set_cons_zero, List.set_cons_succ]
         refine' wpAnyH_take (i := 5) (oi := ⟨_, _, _, _, _, _⟩) rfl (by kernel_rfl) (by kernel_rfl) (by kernel_rfl) (fun _ _ _ h => h) (Or.inl ⟨by rfl, ?a22⟩) (by assumption) ?b22
         case a22 => (intro w hSw; (try dsimp only at hSw); go_simp; try with_reducible rfl)
         try simp only [Act.put, List.setIfInBounds_toArray, List.set_cons_zero, List.set_cons_succ]
         refine' wpAnyH_take (i := 6) (oi := ⟨_, _, _, _, _, _⟩) rfl (by kernel_rfl) (by kernel_rfl) (by kernel_rfl) (fun _ _ _ h => h) (Or.inl ⟨by rfl, ?a23⟩) (by assumption) ?b23
         case a23 => (intro w hSw; (try dsimp only at hSw); go_simp; try with_reducible rfl)
         try simp only [Act.put, List.setIfInBounds_toArray, List.set_cons_zero, List.set_cons_succ]
         refine' wpAnyH_take (i := 7) (oi := ⟨_, _, _, _, _, _⟩) rfl (by kernel_rfl) (by kernel_rfl) (by kernel_rfl) (fun _ _ _ h => h) (Or.inl ⟨by rfl, ?a24⟩) (by assumption) ?b24
         case a24 => (intro w hSw; (try dsimp only at hSw); go_simp; try with_reducible rfl)
         try simp only [Act.put, List.setIfInBounds_toArray, List.set_cons_zero, List.set_cons_succ]
         refine' wpAnyH_take (i := 8) (oi := ⟨_, _, _, _, _, _⟩) rfl (by kernel_rfl) (by kernel_rfl) (by kernel_rfl) (fun _ _ _ h => h) (Or.inl ⟨by rfl, ?a25⟩) (by assumption) ?b25
         case a25 => (intro w hSw; (try dsimp only at hSw); go_simp; try with_reducible rfl)
         try simp only [Act.put, List.setIfInBounds_toArray, List.set_cons_zero, List.set_cons_succ]
         refine' wpAnyH_take (i := 9) (oi := ⟨_, _, _, _, _, _⟩) rfl (by kernel_rfl) (by kernel_rfl) (by kernel_rfl) (fun _ _ _ h => h) (Or.inl ⟨by rfl, ?a26⟩) (by assumption) ?b26
         case a26 => (intro w hSw; (try dsimp only at hSw); go_simp; try with_reducible rfl)
         try simp only [Act.put, List.setIfInBounds_toArray, List.set_cons_zero, List.set_cons_succ]
         refine' wpAnyH_take (i := 10) (oi := ⟨_, _, _, _, _, _⟩) rfl (by kernel_rfl) (by kernel_rfl) (by kernel_rfl) (fun _ _ _ h => h) (Or.inl ⟨by rfl, ?a27⟩) (by assumption) ?b27
         case a27 => (intro w hSw; (try dsimp only at hSw); go_simp; try with_reducible rfl)
         try simp only [Act.put, List.setIfInBounds_toArray, List.set_cons_zero, List.set_cons_succ]
         refine wpAnyH_ready (rs := [11]) (by kernel_rfl) (by simp) ?_
         refine AllReadyH.cons (o := ⟨_, _, _, _, _, _⟩) rfl (fun K hK => ?_) AllReadyH.nil
         go_simp
         go_at_call 18
         refine (Low_calls eI bI _ (by omega) (by omega)).mono ?_
         rintro e w17 ⟨v17, rfl, hown17, hb17⟩
         obtain ⟨A17, c17, rfl, _, hr17⟩ := own_rd hown17
         have hn17 := own_none hown17
         have O17 := Lib.hid (OE.out.below hb17)
         have Hr17 := Lib.hid hr17
         have Hn17 := Lib.hid hn17
         have HI17 := Lib.hid (own_below IE.out hb17)
         have HC17 := Lib.hid (own_below CE.out hb17)
         have U4 := kept_cell hb17 Rd4
         have U5 := kept_cell hb17 Rd5
         clear hown17 hb17 hr17 hn17
         refine hK.out _ _ (⟨U4, U5⟩) (fun hHeld => ?_)
         clear hK K
         try simp only [Act.put, List.setIfInBounds_toArray, List.set_cons_zero, List.set_cons_succ]
         refine wpAnyH_ready (rs := [12]) (by kernel_rfl) (by simp) ?_
         refine AllReadyH.cons (o := ⟨_, _, _, _, _, _⟩) rfl (fun K hK => ?_) AllReadyH.nil
         refine step_appRd (by rfl) _ _ (by rfl) elB O17.out.own (by rfl) (by rfl) Hr17.out Hn17.out (by omega) O17.out.bel.size ?_
         intro v18 w18 hown18 hg18
         have nI := Ne.symm (own_apart2 (by decide) HI17.out O17.out.own gi rfl)
         have V4 := hg18.cell U4 nI
         have V5 := hg18.cell U5 nI
         have O18 := Lib.hid (O17.out.app (lowOf_length _ _) hown18 hg18)
         have HC18 := Lib.hid (own_grown O17.out.own HC17.out (by decide) hg18)
         clear hown18 hg18
         refine hK.out _ _ (⟨V4, V5⟩) (fun hHeld => ?_)
         clear hK K
         try simp only [Act.put, List.setIfInBounds_toArray, List.set_cons_zero, List.set_cons_succ]
         refine wpAnyH_done (by kernel_rfl) ?_ _
         change wpList _ _ _ _ _ _
         go_wp2
         go_roundw
         case rel => exact ⟨k + 1, n + y + bI, by omega, by go_num, by have h9 := O18.out.len; rw [List.length_append, List.length_append, List.length_append, hiOf_length, lowOf_length] at h9; omega, by rw [Hsucc.out, ← List.append_assoc, ← List.append_assoc]; exact O18.out, HC18.out⟩
         case measure => simp [intOf]; omega
        ·obtain rfl : k = its.length := by omega
         have eP : putS xs ys = L2 ++ bitsIt ls its its.length := by
          unfold putS manyOf headS
          rw [← Hits.out, ← Hls.out, hxl.out, hyl.out, ← Ha.out, ← Hb.out, ← Hmv.out, HL2.out, HL1.out, Ha'.out, Hb'.out, Hm'.out]
         have EP := Lib.hid eP
         have hw := Lib.hid (below_seq Hb6.out (Nat.le_refl _) O.out.bel)
         have ho := Lib.hid (own_mono O.out.own Hb6.out.size)
         clear eP
         go_wp2
         go_ret
         exact ⟨_, rfl, by rw [EP.out, O.out.len]; exact ho.out, hw.out⟩
end Go.Proofs.YtdbkbeojedndbaaGreatDoor
